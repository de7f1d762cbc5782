/- Joined: PthM, PthN. -/
import Derived.Test.YtekccolabhfopaaGreatDoorJ45
set_option linter.unusedVariables false
set_option linter.unusedSimpArgs false
section
/- A tree stored into a new block: what the walks of ParserParenthesizes ask at each call. -/
namespace Go.Proofs.YtekccolabhfopaaGreatDoor
open Go.RowKit
theorem mem_syn (w : World) (k : Int) (t : List UInt8) (n a : Int) (v : Value) :
    Below w.heap.size w (w.alloc (.cells #[.int .i64 k, .string ⟨List.toArray t⟩, .int .i64 n, .int .i64 a, v] 26)) ∧
    (w.alloc (.cells #[.int .i64 k, .string ⟨List.toArray t⟩, .int .i64 n, .int .i64 a, v] 26)).heap[w.heap.size]? = some (.cells #[.int .i64 k, .string ⟨List.toArray t⟩, .int .i64 n, .int .i64 a, v] 26) :=
  ⟨(Below.refl _ _).alloc (Nat.le_refl _) _, heap_alloc_new w _⟩
end Go.Proofs.YtekccolabhfopaaGreatDoor
end
section
/- Walks: the statement ParserParenthesizes, the condition is not read. -/
set_option maxHeartbeats 4000000
set_option maxRecDepth 100000
namespace Go.Proofs.YtekccolabhfopaaGreatDoor
open Go.RowKit
theorem walkPthN (l : List UInt8) (w : World) (hle : l.length ≤ 600) (hh : l.contains 35 = false) (he : PEnv w) (hm : MostAt w) (k1 : ¬ errNo (parseO l (rdO .cond)) = 0) :
    Calls Tryz.prog 10 #[.string ⟨l.toArray⟩] w fun e w' => e = .returned (.bool true) ∧ Below w.heap.size w w' := by
  have E0 := Lib.hid he
  have B0 := Lib.hid (Below.refl w.heap.size w)
  clear he
  have g1 : decide ((600 : Int) < (l.length : Int)) = false := by rw [decide_eq_false_iff_not]; omega
  have g1' : decide (600 < l.length) = false := by rw [decide_eq_false_iff_not]; omega
  have hH := hash_any l false hh (by omega) w hm
  replace hH := Lib.hid hH
  have nh : (35 : UInt8) ∉ l := fun h => by simp [h] at hh
  clear hm hh
  have hC : ∀ T W, (T : List UInt8).length ≤ 90000 → PEnv W → _ := fun T W hT h => fullCond_any T W hT h
  have hS : ∀ T W, (T : List UInt8).length ≤ 90000 → PEnv W → _ := fun T W hT h => fullScheme_any T W hT h
  have hF : ∀ T W, (T : List UInt8).length ≤ 90000 → PEnv W → _ := fun T W hT h => fullFormula_any T W hT h
  have lA : (parA l).length ≤ 90000 := by simp [parA]; omega
  have lB : (parB l).length ≤ 90000 := by simp [parB]; omega
  have lC : (parC l).length ≤ 90000 := by simp [parC]; omega
  have lD : (parD l).length ≤ 90000 := by simp [parD]; omega
  have c1 := Lib.hid (fun W h => hC l W (by omega) h)
  have c2 : Hid (∀ (T : List UInt8) W, T = parA l → PEnv W → Calls Tryz.prog 16 #[.string ⟨T.toArray⟩] W (PRes W (parseO (parA l) (rdO .cond)))) := fun T W e h => by rw [e]; exact hC (parA l) W lA h
  have c3 : Hid (∀ (T : List UInt8) W, T = parB l → PEnv W → Calls Tryz.prog 16 #[.string ⟨T.toArray⟩] W (PRes W (parseO (parB l) (rdO .cond)))) := fun T W e h => by rw [e]; exact hC (parB l) W lB h
  have c4 := Lib.hid (fun W h => hS l W (by omega) h)
  have c5 : Hid (∀ (T : List UInt8) W, T = parC l → PEnv W → Calls Tryz.prog 18 #[.string ⟨T.toArray⟩] W (PRes W (parseO (parC l) (rdO .scheme)))) := fun T W e h => by rw [e]; exact hS (parC l) W lC h
  have c6 := Lib.hid (fun W h => hF l W (by omega) h)
  have c7 : Hid (∀ (T : List UInt8) W, T = parD l → PEnv W → Calls Tryz.prog 20 #[.string ⟨T.toArray⟩] W (PRes W (parseO (parD l) (rdO .formula)))) := fun T W e h => by rw [e]; exact hF (parD l) W lD h
  have d4 := Lib.hid (fun W h => (c4.out W h).mono fun e w' h => h.any)
  have d5 := Lib.hid (fun (T : List UInt8) W e h => (c5.out T W e h).mono fun e w' h => h.any)
  have d6 := Lib.hid (fun W h => (c6.out W h).mono fun e w' h => h.any)
  have d7 := Lib.hid (fun (T : List UInt8) W e h => (c7.out T W e h).mono fun e w' h => h.any)
  have d1 := Lib.hid (fun W h => (c1.out W h).mono fun e w' h => h.any)
  have d2 := Lib.hid (fun (T : List UInt8) W e h => (c2.out T W e h).mono fun e w' h => h.any)
  have d3 := Lib.hid (fun (T : List UInt8) W e h => (c3.out T W e h).mono fun e w' h => h.any)
  clear hC hS hF lA lB lC lD
  have t1 : (errNo (parseO l (rdO .cond)) == 0) = false := by rw [beq_eq_false_iff_ne]; exact k1
  clear c1 c2 c3 k1
  go_enter Tryz.func10, Tryz.ntmps10
  go_wp2_with fail
  (with_reducible refine (hH.out).mono ?_); rintro e w0 ⟨rfl, rfl⟩
  go_wp2_with fail
  (with_reducible refine (d1.out _ E0.out).mono ?_); rintro e w1 ⟨b1, kd1, n1, a1, q1, tx1, p1, m1, c1, rfl⟩
  have E1 := Lib.hid (E0.out.below b1)
  have B1 := Lib.hid (B0.out.trans (b1.mono B0.out.size))
  clear b1
  go_upto_region 4 with (fail)
  have bA := (mem_syn w1 kd1 tx1 n1 a1 (.slice p1 m1 c1)).1
  have E1m := Lib.hid (E1.out.below bA)
  have B1m := Lib.hid (B1.out.trans (bA.mono B1.out.size))
  clear bA
  generalize World.alloc w1 _ = w1m at E1m B1m ⊢
  generalize w1.heap.size = N1 at ⊢
  go_wp2_with fail
  (with_reducible refine (d2.out _ _ (by simp [parA]) E1m.out).mono ?_); rintro e w2 ⟨b2, kd2, n2, a2, q2, tx2, p2, m2, c2, rfl⟩
  have E2 := Lib.hid (E1m.out.below b2)
  have B2 := Lib.hid (B1m.out.trans (b2.mono B1m.out.size))
  clear b2
  go_upto_region 5 with (fail)
  have bA := (mem_syn w2 kd2 tx2 n2 a2 (.slice p2 m2 c2)).1
  have E2m := Lib.hid (E2.out.below bA)
  have B2m := Lib.hid (B2.out.trans (bA.mono B2.out.size))
  clear bA
  generalize World.alloc w2 _ = w2m at E2m B2m ⊢
  generalize w2.heap.size = N2 at ⊢
  go_wp2_with fail
  (with_reducible refine (d3.out _ _ (by simp [parB]) E2m.out).mono ?_); rintro e w3 ⟨b3, kd3, n3, a3, q3, tx3, p3, m3, c3, rfl⟩
  have E3 := Lib.hid (E2m.out.below b3)
  have B3 := Lib.hid (B2m.out.trans (b3.mono B2m.out.size))
  clear b3
  go_upto_region 6 with (fail)
  have bA := (mem_syn w3 kd3 tx3 n3 a3 (.slice p3 m3 c3)).1
  have E3m := Lib.hid (E3.out.below bA)
  have B3m := Lib.hid (B3.out.trans (bA.mono B3.out.size))
  clear bA
  generalize World.alloc w3 _ = w3m at E3m B3m ⊢
  generalize w3.heap.size = N3 at ⊢
  by_cases k4 : errNo (parseO l (rdO .scheme)) = 0
  · obtain ⟨x4, j4, o4⟩ := ok_of_errNo k4
    have hlike := paren_c hle nh o4
    have sx4 := rdO_sm (by omega) o4
    replace c4 := c4.out
    rw [o4] at c4
    replace c4 := Lib.hid c4
    cases x4 with
    | mk kx tx nx ax xs =>
    cases sx4 with
    | mk sx1 sx2 =>
    replace sx2 := Lib.hid sx2
    cases o5 : parseO (parC l) (rdO .scheme) with
    | none => rw [o5] at hlike; exact hlike.elim
    | err p5 e5 =>
      rw [o5] at hlike
      obtain rfl : e5 = 12 := hlike
      replace c5 := c5.out
      rw [o5] at c5
      replace c5 := Lib.hid c5
      clear k4 o4 o5 d4 d5
      go_wp2_with fail
      (with_reducible refine (c4.out _ E3m.out).mono ?_); rintro e w4 ⟨b4, v, rfl, kv, rfl, hkx⟩
      simp only [Syn.kind, Syn.text, Syn.num, Syn.pos, Syn.kids] at hkx ⊢
      obtain ⟨px, mx, cx, rfl⟩ := hkx.shape
      replace hkx := Lib.hid hkx
      have E4 := Lib.hid (E3m.out.below b4)
      have B4 := Lib.hid (B3m.out.trans (b4.mono B3m.out.size))
      clear b4
      go_upto_region 12 with (fail)
      obtain ⟨bA, hn4⟩ := mem_syn w4 (kx) (tx) (nx) (ax) (.slice px mx cx)
      have E4m := Lib.hid (E4.out.below bA)
      have B4m := Lib.hid (B4.out.trans (bA.mono B4.out.size))
      replace hkx := Lib.hid (kids_below hkx.out bA)
      generalize World.alloc w4 _ = w4m at hn4 hkx E4m B4m ⊢
      generalize w4.heap.size = N4 at hn4 hkx ⊢
      replace hn4 := Lib.hid hn4
      clear bA
      go_wp2_with fail
      (with_reducible refine (c5.out _ _ (by simp [parC]) E4m.out).mono ?_); rintro e w5 ⟨b5, h5⟩
      subst h5
      have E5 := Lib.hid (E4m.out.below b5)
      have B5 := Lib.hid (B4m.out.trans (b5.mono B4m.out.size))
      clear b5 hn4 hkx
      go_upto_region 13 with (fail)
      obtain ⟨bA, hn5⟩ := mem_syn w5 (0) ([]) (0) (0) (.slice none 0 0)
      have E5m := Lib.hid (E5.out.below bA)
      have B5m := Lib.hid (B5.out.trans (bA.mono B5.out.size))
      generalize World.alloc w5 _ = w5m at hn5 E5m B5m ⊢
      generalize w5.heap.size = N5 at hn5 ⊢
      replace hn5 := Lib.hid hn5
      clear bA
      clear hn5
      by_cases k6 : errNo (parseO l (rdO .formula)) = 0
      · obtain ⟨x6, j6, o6⟩ := ok_of_errNo k6
        have hlike := paren_d hle nh o6
        have sx6 := rdO_sm (by omega) o6
        replace c6 := c6.out
        rw [o6] at c6
        replace c6 := Lib.hid c6
        cases x6 with
        | mk kx tx nx ax xs =>
        cases sx6 with
        | mk sx1 sx2 =>
        replace sx2 := Lib.hid sx2
        cases o7 : parseO (parD l) (rdO .formula) with
        | none => rw [o7] at hlike; exact hlike.elim
        | err p7 e7 =>
          rw [o7] at hlike
          obtain rfl : e7 = 12 := hlike
          replace c7 := c7.out
          rw [o7] at c7
          replace c7 := Lib.hid c7
          clear k6 o6 o7 d6 d7
          go_wp2_with fail
          (with_reducible refine (c6.out _ E5m.out).mono ?_); rintro e w6 ⟨b6, v, rfl, kv, rfl, hkx⟩
          simp only [Syn.kind, Syn.text, Syn.num, Syn.pos, Syn.kids] at hkx ⊢
          obtain ⟨px, mx, cx, rfl⟩ := hkx.shape
          replace hkx := Lib.hid hkx
          have E6 := Lib.hid (E5m.out.below b6)
          have B6 := Lib.hid (B5m.out.trans (b6.mono B5m.out.size))
          clear b6
          go_upto_region 16 with (fail)
          obtain ⟨bA, hn6⟩ := mem_syn w6 (kx) (tx) (nx) (ax) (.slice px mx cx)
          have E6m := Lib.hid (E6.out.below bA)
          have B6m := Lib.hid (B6.out.trans (bA.mono B6.out.size))
          replace hkx := Lib.hid (kids_below hkx.out bA)
          generalize World.alloc w6 _ = w6m at hn6 hkx E6m B6m ⊢
          generalize w6.heap.size = N6 at hn6 hkx ⊢
          replace hn6 := Lib.hid hn6
          clear bA
          go_wp2_with fail
          (with_reducible refine (c7.out _ _ (by simp [parD]) E6m.out).mono ?_); rintro e w7 ⟨b7, h7⟩
          subst h7
          have E7 := Lib.hid (E6m.out.below b7)
          have B7 := Lib.hid (B6m.out.trans (b7.mono B6m.out.size))
          clear b7 hn6 hkx
          go_upto_region 17 with (fail)
          obtain ⟨bA, hn7⟩ := mem_syn w7 (0) ([]) (0) (0) (.slice none 0 0)
          have E7m := Lib.hid (E7.out.below bA)
          have B7m := Lib.hid (B7.out.trans (bA.mono B7.out.size))
          generalize World.alloc w7 _ = w7m at hn7 E7m B7m ⊢
          generalize w7.heap.size = N7 at hn7 ⊢
          replace hn7 := Lib.hid hn7
          clear bA
          clear hn7
          go_wp2_with fail
          (with_reducible refine (awake08_any _ E7m.out).mono ?_); rintro e wz ⟨rfl, bz⟩
          go_wp2_with fail
          go_ret
          exact ⟨rfl, B7m.out.trans (bz.mono B7m.out.size)⟩
        | ok y7 j7 =>
          rw [o7] at hlike
          have htw : Twin Any (.mk kx tx nx ax xs) y7 := hlike
          clear hlike
          cases htw with
          | @mk _ _ _ _ ay _ ys rr hxy =>
          replace hxy := Lib.hid hxy
          replace c7 := c7.out
          rw [o7] at c7
          replace c7 := Lib.hid c7
          clear k6 o6 o7 d6 d7
          go_wp2_with fail
          (with_reducible refine (c6.out _ E5m.out).mono ?_); rintro e w6 ⟨b6, v, rfl, kv, rfl, hkx⟩
          simp only [Syn.kind, Syn.text, Syn.num, Syn.pos, Syn.kids] at hkx ⊢
          obtain ⟨px, mx, cx, rfl⟩ := hkx.shape
          replace hkx := Lib.hid hkx
          have E6 := Lib.hid (E5m.out.below b6)
          have B6 := Lib.hid (B5m.out.trans (b6.mono B5m.out.size))
          clear b6
          go_upto_region 16 with (fail)
          obtain ⟨bA, hn6⟩ := mem_syn w6 (kx) (tx) (nx) (ax) (.slice px mx cx)
          have E6m := Lib.hid (E6.out.below bA)
          have B6m := Lib.hid (B6.out.trans (bA.mono B6.out.size))
          replace hkx := Lib.hid (kids_below hkx.out bA)
          generalize World.alloc w6 _ = w6m at hn6 hkx E6m B6m ⊢
          generalize w6.heap.size = N6 at hn6 hkx ⊢
          replace hn6 := Lib.hid hn6
          clear bA
          go_wp2_with fail
          (with_reducible refine (c7.out _ _ (by simp [parD]) E6m.out).mono ?_); rintro e w7 ⟨b7, v, rfl, kv, rfl, hky⟩
          simp only [Syn.kind, Syn.text, Syn.num, Syn.pos, Syn.kids] at hky ⊢
          obtain ⟨py, my, cy, rfl⟩ := hky.shape
          replace hky := Lib.hid hky
          have E7 := Lib.hid (E6m.out.below b7)
          have B7 := Lib.hid (B6m.out.trans (b7.mono B6m.out.size))
          replace hn6 := Lib.hid ((b7.block _ (Array.getElem?_eq_some_iff.1 hn6.out).1).trans hn6.out)
          replace hkx := Lib.hid (kids_below hkx.out b7)
          clear b7
          go_upto_region 17 with (fail)
          obtain ⟨bA, hn7⟩ := mem_syn w7 (kx) (tx) (nx) (ay) (.slice py my cy)
          have E7m := Lib.hid (E7.out.below bA)
          have B7m := Lib.hid (B7.out.trans (bA.mono B7.out.size))
          replace hn6 := Lib.hid ((bA.block _ (Array.getElem?_eq_some_iff.1 hn6.out).1).trans hn6.out)
          replace hkx := Lib.hid (kids_below hkx.out bA)
          replace hky := Lib.hid (kids_below hky.out bA)
          generalize World.alloc w7 _ = w7m at hn6 hn7 hkx hky E7m B7m ⊢
          generalize w7.heap.size = N7 at hn7 hky ⊢
          replace hn7 := Lib.hid hn7
          clear bA
          obtain ⟨⟨u0, u1, u2, u3, u4⟩, -⟩ := own5 hn6.out
          obtain ⟨⟨v0, v1, v2, v3, v4⟩, -⟩ := own5 hn7.out
          have hcall := Lib.hid (same08_any (SizeOf.sizeOf xs + 1) _ _ kx nx ax ay tx xs ys (.slice px mx cx) (.slice py my cy) w7m (by omega) hxy.out sx1 hkx.out hky.out sx2.out)
          clear hn6 hn7 hkx hky
          go_wp2_with fail
          (with_reducible refine (hcall.out).mono ?_); rintro e w7s ⟨rfl, b7s⟩
          have E7s := Lib.hid (E7m.out.below b7s)
          have B7s := Lib.hid (B7m.out.trans (b7s.mono B7m.out.size))
          clear b7s hcall u0 u1 u2 u3 u4 v0 v1 v2 v3 v4
          go_wp2_with fail
          (with_reducible refine (awake08_any _ E7s.out).mono ?_); rintro e wz ⟨rfl, bz⟩
          go_wp2_with fail
          go_ret
          exact ⟨rfl, B7s.out.trans (bz.mono B7s.out.size)⟩
      · have tk6 : (errNo (parseO l (rdO .formula)) != 0) = true := by rw [bne_iff_ne]; exact k6
        clear c6 c7 k6
        go_wp2_with fail
        (with_reducible refine (d6.out _ E5m.out).mono ?_); rintro e w6 ⟨b6, kd6, n6, a6, q6, tx6, p6, m6, c6, rfl⟩
        have E6 := Lib.hid (E5m.out.below b6)
        have B6 := Lib.hid (B5m.out.trans (b6.mono B5m.out.size))
        clear b6
        go_upto_region 16 with (fail)
        have bA := (mem_syn w6 kd6 tx6 n6 a6 (.slice p6 m6 c6)).1
        have E6m := Lib.hid (E6.out.below bA)
        have B6m := Lib.hid (B6.out.trans (bA.mono B6.out.size))
        clear bA
        generalize World.alloc w6 _ = w6m at E6m B6m ⊢
        generalize w6.heap.size = N6 at ⊢
        go_wp2_with fail
        (with_reducible refine (d7.out _ _ (by simp [parD]) E6m.out).mono ?_); rintro e w7 ⟨b7, kd7, n7, a7, q7, tx7, p7, m7, c7, rfl⟩
        have E7 := Lib.hid (E6m.out.below b7)
        have B7 := Lib.hid (B6m.out.trans (b7.mono B6m.out.size))
        clear b7
        go_upto_region 17 with (fail)
        have bA := (mem_syn w7 kd7 tx7 n7 a7 (.slice p7 m7 c7)).1
        have E7m := Lib.hid (E7.out.below bA)
        have B7m := Lib.hid (B7.out.trans (bA.mono B7.out.size))
        clear bA
        generalize World.alloc w7 _ = w7m at E7m B7m ⊢
        generalize w7.heap.size = N7 at ⊢
        go_wp2_with fail
        (with_reducible refine (awake08_any _ E7m.out).mono ?_); rintro e wz ⟨rfl, bz⟩
        go_wp2_with fail
        go_ret
        exact ⟨rfl, B7m.out.trans (bz.mono B7m.out.size)⟩
    | ok y5 j5 =>
      rw [o5] at hlike
      have htw : Twin Any (.mk kx tx nx ax xs) y5 := hlike
      clear hlike
      cases htw with
      | @mk _ _ _ _ ay _ ys rr hxy =>
      replace hxy := Lib.hid hxy
      replace c5 := c5.out
      rw [o5] at c5
      replace c5 := Lib.hid c5
      clear k4 o4 o5 d4 d5
      go_wp2_with fail
      (with_reducible refine (c4.out _ E3m.out).mono ?_); rintro e w4 ⟨b4, v, rfl, kv, rfl, hkx⟩
      simp only [Syn.kind, Syn.text, Syn.num, Syn.pos, Syn.kids] at hkx ⊢
      obtain ⟨px, mx, cx, rfl⟩ := hkx.shape
      replace hkx := Lib.hid hkx
      have E4 := Lib.hid (E3m.out.below b4)
      have B4 := Lib.hid (B3m.out.trans (b4.mono B3m.out.size))
      clear b4
      go_upto_region 12 with (fail)
      obtain ⟨bA, hn4⟩ := mem_syn w4 (kx) (tx) (nx) (ax) (.slice px mx cx)
      have E4m := Lib.hid (E4.out.below bA)
      have B4m := Lib.hid (B4.out.trans (bA.mono B4.out.size))
      replace hkx := Lib.hid (kids_below hkx.out bA)
      generalize World.alloc w4 _ = w4m at hn4 hkx E4m B4m ⊢
      generalize w4.heap.size = N4 at hn4 hkx ⊢
      replace hn4 := Lib.hid hn4
      clear bA
      go_wp2_with fail
      (with_reducible refine (c5.out _ _ (by simp [parC]) E4m.out).mono ?_); rintro e w5 ⟨b5, v, rfl, kv, rfl, hky⟩
      simp only [Syn.kind, Syn.text, Syn.num, Syn.pos, Syn.kids] at hky ⊢
      obtain ⟨py, my, cy, rfl⟩ := hky.shape
      replace hky := Lib.hid hky
      have E5 := Lib.hid (E4m.out.below b5)
      have B5 := Lib.hid (B4m.out.trans (b5.mono B4m.out.size))
      replace hn4 := Lib.hid ((b5.block _ (Array.getElem?_eq_some_iff.1 hn4.out).1).trans hn4.out)
      replace hkx := Lib.hid (kids_below hkx.out b5)
      clear b5
      go_upto_region 13 with (fail)
      obtain ⟨bA, hn5⟩ := mem_syn w5 (kx) (tx) (nx) (ay) (.slice py my cy)
      have E5m := Lib.hid (E5.out.below bA)
      have B5m := Lib.hid (B5.out.trans (bA.mono B5.out.size))
      replace hn4 := Lib.hid ((bA.block _ (Array.getElem?_eq_some_iff.1 hn4.out).1).trans hn4.out)
      replace hkx := Lib.hid (kids_below hkx.out bA)
      replace hky := Lib.hid (kids_below hky.out bA)
      generalize World.alloc w5 _ = w5m at hn4 hn5 hkx hky E5m B5m ⊢
      generalize w5.heap.size = N5 at hn5 hky ⊢
      replace hn5 := Lib.hid hn5
      clear bA
      obtain ⟨⟨u0, u1, u2, u3, u4⟩, -⟩ := own5 hn4.out
      obtain ⟨⟨v0, v1, v2, v3, v4⟩, -⟩ := own5 hn5.out
      have hcall := Lib.hid (same08_any (SizeOf.sizeOf xs + 1) _ _ kx nx ax ay tx xs ys (.slice px mx cx) (.slice py my cy) w5m (by omega) hxy.out sx1 hkx.out hky.out sx2.out)
      clear hn4 hn5 hkx hky
      go_wp2_with fail
      (with_reducible refine (hcall.out).mono ?_); rintro e w5s ⟨rfl, b5s⟩
      have E5s := Lib.hid (E5m.out.below b5s)
      have B5s := Lib.hid (B5m.out.trans (b5s.mono B5m.out.size))
      clear b5s hcall u0 u1 u2 u3 u4 v0 v1 v2 v3 v4
      by_cases k6 : errNo (parseO l (rdO .formula)) = 0
      · obtain ⟨x6, j6, o6⟩ := ok_of_errNo k6
        have hlike := paren_d hle nh o6
        have sx6 := rdO_sm (by omega) o6
        replace c6 := c6.out
        rw [o6] at c6
        replace c6 := Lib.hid c6
        cases x6 with
        | mk kx tx nx ax xs =>
        cases sx6 with
        | mk sx1 sx2 =>
        replace sx2 := Lib.hid sx2
        cases o7 : parseO (parD l) (rdO .formula) with
        | none => rw [o7] at hlike; exact hlike.elim
        | err p7 e7 =>
          rw [o7] at hlike
          obtain rfl : e7 = 12 := hlike
          replace c7 := c7.out
          rw [o7] at c7
          replace c7 := Lib.hid c7
          clear k6 o6 o7 d6 d7
          go_wp2_with fail
          (with_reducible refine (c6.out _ E5s.out).mono ?_); rintro e w6 ⟨b6, v, rfl, kv, rfl, hkx⟩
          simp only [Syn.kind, Syn.text, Syn.num, Syn.pos, Syn.kids] at hkx ⊢
          obtain ⟨px, mx, cx, rfl⟩ := hkx.shape
          replace hkx := Lib.hid hkx
          have E6 := Lib.hid (E5s.out.below b6)
          have B6 := Lib.hid (B5s.out.trans (b6.mono B5s.out.size))
          clear b6
          go_upto_region 16 with (fail)
          obtain ⟨bA, hn6⟩ := mem_syn w6 (kx) (tx) (nx) (ax) (.slice px mx cx)
          have E6m := Lib.hid (E6.out.below bA)
          have B6m := Lib.hid (B6.out.trans (bA.mono B6.out.size))
          replace hkx := Lib.hid (kids_below hkx.out bA)
          generalize World.alloc w6 _ = w6m at hn6 hkx E6m B6m ⊢
          generalize w6.heap.size = N6 at hn6 hkx ⊢
          replace hn6 := Lib.hid hn6
          clear bA
          go_wp2_with fail
          (with_reducible refine (c7.out _ _ (by simp [parD]) E6m.out).mono ?_); rintro e w7 ⟨b7, h7⟩
          subst h7
          have E7 := Lib.hid (E6m.out.below b7)
          have B7 := Lib.hid (B6m.out.trans (b7.mono B6m.out.size))
          clear b7 hn6 hkx
          go_upto_region 17 with (fail)
          obtain ⟨bA, hn7⟩ := mem_syn w7 (0) ([]) (0) (0) (.slice none 0 0)
          have E7m := Lib.hid (E7.out.below bA)
          have B7m := Lib.hid (B7.out.trans (bA.mono B7.out.size))
          generalize World.alloc w7 _ = w7m at hn7 E7m B7m ⊢
          generalize w7.heap.size = N7 at hn7 ⊢
          replace hn7 := Lib.hid hn7
          clear bA
          clear hn7
          go_wp2_with fail
          (with_reducible refine (awake08_any _ E7m.out).mono ?_); rintro e wz ⟨rfl, bz⟩
          go_wp2_with fail
          go_ret
          exact ⟨rfl, B7m.out.trans (bz.mono B7m.out.size)⟩
        | ok y7 j7 =>
          rw [o7] at hlike
          have htw : Twin Any (.mk kx tx nx ax xs) y7 := hlike
          clear hlike
          cases htw with
          | @mk _ _ _ _ ay _ ys rr hxy =>
          replace hxy := Lib.hid hxy
          replace c7 := c7.out
          rw [o7] at c7
          replace c7 := Lib.hid c7
          clear k6 o6 o7 d6 d7
          go_wp2_with fail
          (with_reducible refine (c6.out _ E5s.out).mono ?_); rintro e w6 ⟨b6, v, rfl, kv, rfl, hkx⟩
          simp only [Syn.kind, Syn.text, Syn.num, Syn.pos, Syn.kids] at hkx ⊢
          obtain ⟨px, mx, cx, rfl⟩ := hkx.shape
          replace hkx := Lib.hid hkx
          have E6 := Lib.hid (E5s.out.below b6)
          have B6 := Lib.hid (B5s.out.trans (b6.mono B5s.out.size))
          clear b6
          go_upto_region 16 with (fail)
          obtain ⟨bA, hn6⟩ := mem_syn w6 (kx) (tx) (nx) (ax) (.slice px mx cx)
          have E6m := Lib.hid (E6.out.below bA)
          have B6m := Lib.hid (B6.out.trans (bA.mono B6.out.size))
          replace hkx := Lib.hid (kids_below hkx.out bA)
          generalize World.alloc w6 _ = w6m at hn6 hkx E6m B6m ⊢
          generalize w6.heap.size = N6 at hn6 hkx ⊢
          replace hn6 := Lib.hid hn6
          clear bA
          go_wp2_with fail
          (with_reducible refine (c7.out _ _ (by simp [parD]) E6m.out).mono ?_); rintro e w7 ⟨b7, v, rfl, kv, rfl, hky⟩
          simp only [Syn.kind, Syn.text, Syn.num, Syn.pos, Syn.kids] at hky ⊢
          obtain ⟨py, my, cy, rfl⟩ := hky.shape
          replace hky := Lib.hid hky
          have E7 := Lib.hid (E6m.out.below b7)
          have B7 := Lib.hid (B6m.out.trans (b7.mono B6m.out.size))
          replace hn6 := Lib.hid ((b7.block _ (Array.getElem?_eq_some_iff.1 hn6.out).1).trans hn6.out)
          replace hkx := Lib.hid (kids_below hkx.out b7)
          clear b7
          go_upto_region 17 with (fail)
          obtain ⟨bA, hn7⟩ := mem_syn w7 (kx) (tx) (nx) (ay) (.slice py my cy)
          have E7m := Lib.hid (E7.out.below bA)
          have B7m := Lib.hid (B7.out.trans (bA.mono B7.out.size))
          replace hn6 := Lib.hid ((bA.block _ (Array.getElem?_eq_some_iff.1 hn6.out).1).trans hn6.out)
          replace hkx := Lib.hid (kids_below hkx.out bA)
          replace hky := Lib.hid (kids_below hky.out bA)
          generalize World.alloc w7 _ = w7m at hn6 hn7 hkx hky E7m B7m ⊢
          generalize w7.heap.size = N7 at hn7 hky ⊢
          replace hn7 := Lib.hid hn7
          clear bA
          obtain ⟨⟨u0, u1, u2, u3, u4⟩, -⟩ := own5 hn6.out
          obtain ⟨⟨v0, v1, v2, v3, v4⟩, -⟩ := own5 hn7.out
          have hcall := Lib.hid (same08_any (SizeOf.sizeOf xs + 1) _ _ kx nx ax ay tx xs ys (.slice px mx cx) (.slice py my cy) w7m (by omega) hxy.out sx1 hkx.out hky.out sx2.out)
          clear hn6 hn7 hkx hky
          go_wp2_with fail
          (with_reducible refine (hcall.out).mono ?_); rintro e w7s ⟨rfl, b7s⟩
          have E7s := Lib.hid (E7m.out.below b7s)
          have B7s := Lib.hid (B7m.out.trans (b7s.mono B7m.out.size))
          clear b7s hcall u0 u1 u2 u3 u4 v0 v1 v2 v3 v4
          go_wp2_with fail
          (with_reducible refine (awake08_any _ E7s.out).mono ?_); rintro e wz ⟨rfl, bz⟩
          go_wp2_with fail
          go_ret
          exact ⟨rfl, B7s.out.trans (bz.mono B7s.out.size)⟩
      · have tk6 : (errNo (parseO l (rdO .formula)) != 0) = true := by rw [bne_iff_ne]; exact k6
        clear c6 c7 k6
        go_wp2_with fail
        (with_reducible refine (d6.out _ E5s.out).mono ?_); rintro e w6 ⟨b6, kd6, n6, a6, q6, tx6, p6, m6, c6, rfl⟩
        have E6 := Lib.hid (E5s.out.below b6)
        have B6 := Lib.hid (B5s.out.trans (b6.mono B5s.out.size))
        clear b6
        go_upto_region 16 with (fail)
        have bA := (mem_syn w6 kd6 tx6 n6 a6 (.slice p6 m6 c6)).1
        have E6m := Lib.hid (E6.out.below bA)
        have B6m := Lib.hid (B6.out.trans (bA.mono B6.out.size))
        clear bA
        generalize World.alloc w6 _ = w6m at E6m B6m ⊢
        generalize w6.heap.size = N6 at ⊢
        go_wp2_with fail
        (with_reducible refine (d7.out _ _ (by simp [parD]) E6m.out).mono ?_); rintro e w7 ⟨b7, kd7, n7, a7, q7, tx7, p7, m7, c7, rfl⟩
        have E7 := Lib.hid (E6m.out.below b7)
        have B7 := Lib.hid (B6m.out.trans (b7.mono B6m.out.size))
        clear b7
        go_upto_region 17 with (fail)
        have bA := (mem_syn w7 kd7 tx7 n7 a7 (.slice p7 m7 c7)).1
        have E7m := Lib.hid (E7.out.below bA)
        have B7m := Lib.hid (B7.out.trans (bA.mono B7.out.size))
        clear bA
        generalize World.alloc w7 _ = w7m at E7m B7m ⊢
        generalize w7.heap.size = N7 at ⊢
        go_wp2_with fail
        (with_reducible refine (awake08_any _ E7m.out).mono ?_); rintro e wz ⟨rfl, bz⟩
        go_wp2_with fail
        go_ret
        exact ⟨rfl, B7m.out.trans (bz.mono B7m.out.size)⟩
  · have tk4 : (errNo (parseO l (rdO .scheme)) == 0) = false := by rw [beq_eq_false_iff_ne]; exact k4
    clear c4 c5 k4
    go_wp2_with fail
    (with_reducible refine (d4.out _ E3m.out).mono ?_); rintro e w4 ⟨b4, kd4, n4, a4, q4, tx4, p4, m4, c4, rfl⟩
    have E4 := Lib.hid (E3m.out.below b4)
    have B4 := Lib.hid (B3m.out.trans (b4.mono B3m.out.size))
    clear b4
    go_upto_region 12 with (fail)
    have bA := (mem_syn w4 kd4 tx4 n4 a4 (.slice p4 m4 c4)).1
    have E4m := Lib.hid (E4.out.below bA)
    have B4m := Lib.hid (B4.out.trans (bA.mono B4.out.size))
    clear bA
    generalize World.alloc w4 _ = w4m at E4m B4m ⊢
    generalize w4.heap.size = N4 at ⊢
    go_wp2_with fail
    (with_reducible refine (d5.out _ _ (by simp [parC]) E4m.out).mono ?_); rintro e w5 ⟨b5, kd5, n5, a5, q5, tx5, p5, m5, c5, rfl⟩
    have E5 := Lib.hid (E4m.out.below b5)
    have B5 := Lib.hid (B4m.out.trans (b5.mono B4m.out.size))
    clear b5
    go_upto_region 13 with (fail)
    have bA := (mem_syn w5 kd5 tx5 n5 a5 (.slice p5 m5 c5)).1
    have E5m := Lib.hid (E5.out.below bA)
    have B5m := Lib.hid (B5.out.trans (bA.mono B5.out.size))
    clear bA
    generalize World.alloc w5 _ = w5m at E5m B5m ⊢
    generalize w5.heap.size = N5 at ⊢
    by_cases k6 : errNo (parseO l (rdO .formula)) = 0
    · obtain ⟨x6, j6, o6⟩ := ok_of_errNo k6
      have hlike := paren_d hle nh o6
      have sx6 := rdO_sm (by omega) o6
      replace c6 := c6.out
      rw [o6] at c6
      replace c6 := Lib.hid c6
      cases x6 with
      | mk kx tx nx ax xs =>
      cases sx6 with
      | mk sx1 sx2 =>
      replace sx2 := Lib.hid sx2
      cases o7 : parseO (parD l) (rdO .formula) with
      | none => rw [o7] at hlike; exact hlike.elim
      | err p7 e7 =>
        rw [o7] at hlike
        obtain rfl : e7 = 12 := hlike
        replace c7 := c7.out
        rw [o7] at c7
        replace c7 := Lib.hid c7
        clear k6 o6 o7 d6 d7
        go_wp2_with fail
        (with_reducible refine (c6.out _ E5m.out).mono ?_); rintro e w6 ⟨b6, v, rfl, kv, rfl, hkx⟩
        simp only [Syn.kind, Syn.text, Syn.num, Syn.pos, Syn.kids] at hkx ⊢
        obtain ⟨px, mx, cx, rfl⟩ := hkx.shape
        replace hkx := Lib.hid hkx
        have E6 := Lib.hid (E5m.out.below b6)
        have B6 := Lib.hid (B5m.out.trans (b6.mono B5m.out.size))
        clear b6
        go_upto_region 16 with (fail)
        obtain ⟨bA, hn6⟩ := mem_syn w6 (kx) (tx) (nx) (ax) (.slice px mx cx)
        have E6m := Lib.hid (E6.out.below bA)
        have B6m := Lib.hid (B6.out.trans (bA.mono B6.out.size))
        replace hkx := Lib.hid (kids_below hkx.out bA)
        generalize World.alloc w6 _ = w6m at hn6 hkx E6m B6m ⊢
        generalize w6.heap.size = N6 at hn6 hkx ⊢
        replace hn6 := Lib.hid hn6
        clear bA
        go_wp2_with fail
        (with_reducible refine (c7.out _ _ (by simp [parD]) E6m.out).mono ?_); rintro e w7 ⟨b7, h7⟩
        subst h7
        have E7 := Lib.hid (E6m.out.below b7)
        have B7 := Lib.hid (B6m.out.trans (b7.mono B6m.out.size))
        clear b7 hn6 hkx
        go_upto_region 17 with (fail)
        obtain ⟨bA, hn7⟩ := mem_syn w7 (0) ([]) (0) (0) (.slice none 0 0)
        have E7m := Lib.hid (E7.out.below bA)
        have B7m := Lib.hid (B7.out.trans (bA.mono B7.out.size))
        generalize World.alloc w7 _ = w7m at hn7 E7m B7m ⊢
        generalize w7.heap.size = N7 at hn7 ⊢
        replace hn7 := Lib.hid hn7
        clear bA
        clear hn7
        go_wp2_with fail
        (with_reducible refine (awake08_any _ E7m.out).mono ?_); rintro e wz ⟨rfl, bz⟩
        go_wp2_with fail
        go_ret
        exact ⟨rfl, B7m.out.trans (bz.mono B7m.out.size)⟩
      | ok y7 j7 =>
        rw [o7] at hlike
        have htw : Twin Any (.mk kx tx nx ax xs) y7 := hlike
        clear hlike
        cases htw with
        | @mk _ _ _ _ ay _ ys rr hxy =>
        replace hxy := Lib.hid hxy
        replace c7 := c7.out
        rw [o7] at c7
        replace c7 := Lib.hid c7
        clear k6 o6 o7 d6 d7
        go_wp2_with fail
        (with_reducible refine (c6.out _ E5m.out).mono ?_); rintro e w6 ⟨b6, v, rfl, kv, rfl, hkx⟩
        simp only [Syn.kind, Syn.text, Syn.num, Syn.pos, Syn.kids] at hkx ⊢
        obtain ⟨px, mx, cx, rfl⟩ := hkx.shape
        replace hkx := Lib.hid hkx
        have E6 := Lib.hid (E5m.out.below b6)
        have B6 := Lib.hid (B5m.out.trans (b6.mono B5m.out.size))
        clear b6
        go_upto_region 16 with (fail)
        obtain ⟨bA, hn6⟩ := mem_syn w6 (kx) (tx) (nx) (ax) (.slice px mx cx)
        have E6m := Lib.hid (E6.out.below bA)
        have B6m := Lib.hid (B6.out.trans (bA.mono B6.out.size))
        replace hkx := Lib.hid (kids_below hkx.out bA)
        generalize World.alloc w6 _ = w6m at hn6 hkx E6m B6m ⊢
        generalize w6.heap.size = N6 at hn6 hkx ⊢
        replace hn6 := Lib.hid hn6
        clear bA
        go_wp2_with fail
        (with_reducible refine (c7.out _ _ (by simp [parD]) E6m.out).mono ?_); rintro e w7 ⟨b7, v, rfl, kv, rfl, hky⟩
        simp only [Syn.kind, Syn.text, Syn.num, Syn.pos, Syn.kids] at hky ⊢
        obtain ⟨py, my, cy, rfl⟩ := hky.shape
        replace hky := Lib.hid hky
        have E7 := Lib.hid (E6m.out.below b7)
        have B7 := Lib.hid (B6m.out.trans (b7.mono B6m.out.size))
        replace hn6 := Lib.hid ((b7.block _ (Array.getElem?_eq_some_iff.1 hn6.out).1).trans hn6.out)
        replace hkx := Lib.hid (kids_below hkx.out b7)
        clear b7
        go_upto_region 17 with (fail)
        obtain ⟨bA, hn7⟩ := mem_syn w7 (kx) (tx) (nx) (ay) (.slice py my cy)
        have E7m := Lib.hid (E7.out.below bA)
        have B7m := Lib.hid (B7.out.trans (bA.mono B7.out.size))
        replace hn6 := Lib.hid ((bA.block _ (Array.getElem?_eq_some_iff.1 hn6.out).1).trans hn6.out)
        replace hkx := Lib.hid (kids_below hkx.out bA)
        replace hky := Lib.hid (kids_below hky.out bA)
        generalize World.alloc w7 _ = w7m at hn6 hn7 hkx hky E7m B7m ⊢
        generalize w7.heap.size = N7 at hn7 hky ⊢
        replace hn7 := Lib.hid hn7
        clear bA
        obtain ⟨⟨u0, u1, u2, u3, u4⟩, -⟩ := own5 hn6.out
        obtain ⟨⟨v0, v1, v2, v3, v4⟩, -⟩ := own5 hn7.out
        have hcall := Lib.hid (same08_any (SizeOf.sizeOf xs + 1) _ _ kx nx ax ay tx xs ys (.slice px mx cx) (.slice py my cy) w7m (by omega) hxy.out sx1 hkx.out hky.out sx2.out)
        clear hn6 hn7 hkx hky
        go_wp2_with fail
        (with_reducible refine (hcall.out).mono ?_); rintro e w7s ⟨rfl, b7s⟩
        have E7s := Lib.hid (E7m.out.below b7s)
        have B7s := Lib.hid (B7m.out.trans (b7s.mono B7m.out.size))
        clear b7s hcall u0 u1 u2 u3 u4 v0 v1 v2 v3 v4
        go_wp2_with fail
        (with_reducible refine (awake08_any _ E7s.out).mono ?_); rintro e wz ⟨rfl, bz⟩
        go_wp2_with fail
        go_ret
        exact ⟨rfl, B7s.out.trans (bz.mono B7s.out.size)⟩
    · have tk6 : (errNo (parseO l (rdO .formula)) != 0) = true := by rw [bne_iff_ne]; exact k6
      clear c6 c7 k6
      go_wp2_with fail
      (with_reducible refine (d6.out _ E5m.out).mono ?_); rintro e w6 ⟨b6, kd6, n6, a6, q6, tx6, p6, m6, c6, rfl⟩
      have E6 := Lib.hid (E5m.out.below b6)
      have B6 := Lib.hid (B5m.out.trans (b6.mono B5m.out.size))
      clear b6
      go_upto_region 16 with (fail)
      have bA := (mem_syn w6 kd6 tx6 n6 a6 (.slice p6 m6 c6)).1
      have E6m := Lib.hid (E6.out.below bA)
      have B6m := Lib.hid (B6.out.trans (bA.mono B6.out.size))
      clear bA
      generalize World.alloc w6 _ = w6m at E6m B6m ⊢
      generalize w6.heap.size = N6 at ⊢
      go_wp2_with fail
      (with_reducible refine (d7.out _ _ (by simp [parD]) E6m.out).mono ?_); rintro e w7 ⟨b7, kd7, n7, a7, q7, tx7, p7, m7, c7, rfl⟩
      have E7 := Lib.hid (E6m.out.below b7)
      have B7 := Lib.hid (B6m.out.trans (b7.mono B6m.out.size))
      clear b7
      go_upto_region 17 with (fail)
      have bA := (mem_syn w7 kd7 tx7 n7 a7 (.slice p7 m7 c7)).1
      have E7m := Lib.hid (E7.out.below bA)
      have B7m := Lib.hid (B7.out.trans (bA.mono B7.out.size))
      clear bA
      generalize World.alloc w7 _ = w7m at E7m B7m ⊢
      generalize w7.heap.size = N7 at ⊢
      go_wp2_with fail
      (with_reducible refine (awake08_any _ E7m.out).mono ?_); rintro e wz ⟨rfl, bz⟩
      go_wp2_with fail
      go_ret
      exact ⟨rfl, B7m.out.trans (bz.mono B7m.out.size)⟩
end Go.Proofs.YtekccolabhfopaaGreatDoor
end
