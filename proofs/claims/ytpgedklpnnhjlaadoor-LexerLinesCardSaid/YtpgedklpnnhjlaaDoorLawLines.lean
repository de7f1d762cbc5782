/- Walks: the statement LexerLines. -/
import Derived.Test.YtpgedklpnnhjlaaDoorLawReturns
set_option maxHeartbeats 4000000
set_option maxRecDepth 100000
namespace Go.Proofs.YtpgedklpnnhjlaaDoor
open Go.RowKit
/-- The tokens at the head of a block. -/
def TokAt (w : World) (g : Nat) (ts : List Tok) : Prop := g < w.heap.size ∧ ∀ k (h : k < ts.length), w.cell? ⟨g, k * 3, none⟩ = some (.int .i64 ts[k].kind) ∧ w.cell? ⟨g, k * 3 + 1, none⟩ = some (.string ⟨ts[k].text.toArray⟩) ∧ w.cell? ⟨g, k * 3 + 2, none⟩ = some (.int .i64 ts[k].pos)
theorem TokAt.below {w w' : World} {g : Nat} {ts : List Tok} (h : TokAt w g ts) (hb : Below w.heap.size w w') : TokAt w' g ts :=
  ⟨by have := hb.size; have := h.1; omega, fun k hk => by rw [hb.cell h.1, hb.cell h.1, hb.cell h.1]; exact h.2 k hk⟩
theorem TokAt.get {w : World} {g k : Nat} {ts : List Tok} {t : Tok} (h : TokAt w g ts) (ht : ts[k]? = some t) : w.cell? ⟨g, k * 3, none⟩ = some (.int .i64 t.kind) ∧ w.cell? ⟨g, k * 3 + 1, none⟩ = some (.string ⟨t.text.toArray⟩) ∧ w.cell? ⟨g, k * 3 + 2, none⟩ = some (.int .i64 t.pos) := by
  obtain ⟨hk, rfl⟩ := List.getElem?_eq_some_iff.1 ht
  exact h.2 k hk
/-- A slice of tokens of a call's own, not empty: its block and its capacity. -/
theorem owns_open {w : World} {B : Nat} {v : Value} {ts : List Tok} (h : w.ownsRow B 32 3 v ts.length (tokCells ts)) (hne : 0 < ts.length) :
    ∃ g c, v = .slice (some ⟨g, 0, none⟩) ts.length c ∧ ts.length ≤ c ∧ c ≤ maxLen ∧ TokAt w g ts := by
  have hT := TokSl.of_owns h
  rcases h.2 with ⟨_, h0⟩ | ⟨g, cap, cur, rfl, hB, hg, hle, hm, _⟩
  · omega
  · rcases hT with ⟨rfl, _⟩ | ⟨b, o, c, hv, hlt, hc⟩
    · simp at hne
    · simp only [Value.slice.injEq, Option.some.injEq, Addr.mk.injEq] at hv
      obtain ⟨⟨rfl, rfl, _⟩, _, rfl⟩ := hv
      refine ⟨_, _, rfl, hle, hm, hlt, fun k hk => ?_⟩
      have := hc k hk
      simpa only [Nat.zero_add] using this
theorem sub_sl {w : World} {g c n : Nat} {ts us : List Tok} (h : TokAt w g ts) (hu : us = ts.take n) (hn : n = us.length) : TokSl w (.slice (some ⟨g, 0, none⟩) n c) us := by
  subst hn
  refine .inr ⟨g, 0, c, rfl, h.1, fun k hk => ?_⟩
  have h1 : ts[k]? = some us[k] := by
    rw [← List.getElem?_eq_getElem hk]
    conv => rhs; rw [hu]
    rw [List.getElem?_take, if_pos hk]
  have := h.get h1
  simpa only [Nat.zero_add] using this
theorem below_of_some {w w' : World} (h : ∃ n, w' = w.drewN n) : Below w.heap.size w w' := by obtain ⟨n, h⟩ := h; exact below_of_drawn h
theorem walkLines (a b : ByteArray) (w : World) (ha : a.size ≤ 140737488351232) (hb : b.size ≤ 140737488351232) (he : Env w) :
    Calls Tryd.prog 4 #[.string a, .string b] w fun e w' => e = .returned (.bool true) ∧ Below w.heap.size w w' := by
  have E0 := Lib.hid he
  have B0 := Lib.hid (Below.refl w.heap.size w)
  clear he
  obtain ⟨la, rfl⟩ : ∃ l : List UInt8, a = ⟨l.toArray⟩ := ⟨a.data.toList, by simp⟩
  obtain ⟨lb, rfl⟩ : ∃ l : List UInt8, b = ⟨l.toArray⟩ := ⟨b.data.toList, by simp⟩
  rw [ba_size] at ha hb
  by_cases hlong : 300 < la.length + lb.length
  · have h1 : (300 : Int) < (la.length : Int) + (lb.length : Int) := by omega
    go_enter Tryd.func4, Tryd.ntmps4
    go_wp2_with fail
    (with_reducible refine (awake_any _ E0.out).mono ?_); rintro e w1 ⟨rfl, b1⟩
    have E1 := Lib.hid (E0.out.below b1)
    have B1 := Lib.hid (B0.out.trans (b1.mono B0.out.size))
    replace b1 := Lib.hid b1
    go_wp2_with fail
    go_ret
    exact ⟨rfl, B1.out⟩
  · have hle : la.length + lb.length ≤ 300 := by omega
    clear ha hb hlong
    have hS := Lib.hid (fun (x : List UInt8) W (E : Env W) (hx : x.length ≤ 1000000) => scan_any x W hx E.signs E.signs.lt)
    have hlines := scan_lines hle
    have hS1 := fun W E => hS.out la W E (by omega)
    have hS2 := fun W E => hS.out lb W E (by omega)
    have hS3 := fun W E => hS.out (la ++ 10 :: lb) W E (by simp; omega)
    have g1 : decide ((300 : Int) < (la.length : Int) + (lb.length : Int)) = false := by rw [decide_eq_false_iff_not]; omega
    have g1' : decide (300 < la.length + lb.length) = false := by rw [decide_eq_false_iff_not]; omega
    cases hsa : scan la with
    | error x =>
      obtain ⟨d, er⟩ := x
      have her : ((er : Int) != 0) = true := by
        rw [bne_iff_ne]
        have := scan_err hsa
        omega
      rw [hsa] at hS1 hlines
      rw [hlines] at hS3
      simp only [joinL] at hS3
      have q1 : ((er : Int) == (er : Int)) = true := by simp
      have q2 : ((d : Int) == (d : Int)) = true := by simp
      replace hS1 := Lib.hid hS1
      replace hS3 := Lib.hid hS3
      clear hlines hsa
      cases hsb : scan lb with
      | error y =>
        obtain ⟨d2, er2⟩ := y
        rw [hsb] at hS2
        replace hS2 := Lib.hid hS2
        clear hsb
        go_enter Tryd.func4, Tryd.ntmps4
        go_wp2_with fail
        (with_reducible refine (hS1.out _ E0.out).mono ?_); rintro e w1 ⟨b1, rfl⟩
        have E1 := Lib.hid (E0.out.below b1)
        have B1 := Lib.hid (B0.out.trans (b1.mono B0.out.size))
        clear b1
        go_wp2_with fail
        (with_reducible refine (hS2.out _ E1.out).mono ?_); rintro e w2 ⟨b2, rfl⟩
        have E2 := Lib.hid (E1.out.below b2)
        have B2 := Lib.hid (B1.out.trans (b2.mono B1.out.size))
        clear b2
        go_wp2_with fail
        (with_reducible refine (hS3.out _ E2.out).mono ?_); rintro e w3 ⟨b3, rfl⟩
        have E3 := Lib.hid (E2.out.below b3)
        have B3 := Lib.hid (B2.out.trans (b3.mono B2.out.size))
        clear b3
        go_wp2_with fail
        (with_reducible refine (awake_any _ E3.out).mono ?_); rintro e w4 ⟨rfl, b4⟩
        have E4 := Lib.hid (E3.out.below b4)
        have B4 := Lib.hid (B3.out.trans (b4.mono B3.out.size))
        replace b4 := Lib.hid b4
        go_wp2_with fail
        go_ret
        exact ⟨rfl, B4.out⟩
      | ok ms =>
        rw [hsb] at hS2
        replace hS2 := Lib.hid hS2
        clear hsb
        go_enter Tryd.func4, Tryd.ntmps4
        go_wp2_with fail
        (with_reducible refine (hS1.out _ E0.out).mono ?_); rintro e w1 ⟨b1, rfl⟩
        have E1 := Lib.hid (E0.out.below b1)
        have B1 := Lib.hid (B0.out.trans (b1.mono B0.out.size))
        clear b1
        go_wp2_with fail
        (with_reducible refine (hS2.out _ E1.out).mono ?_); rintro e w2 ⟨b2, v2, rfl, o2⟩
        have E2 := Lib.hid (E1.out.below b2)
        have B2 := Lib.hid (B1.out.trans (b2.mono B1.out.size))
        clear b2 o2
        go_wp2_with fail
        (with_reducible refine (hS3.out _ E2.out).mono ?_); rintro e w3 ⟨b3, rfl⟩
        have E3 := Lib.hid (E2.out.below b3)
        have B3 := Lib.hid (B2.out.trans (b3.mono B2.out.size))
        clear b3
        go_wp2_with fail
        (with_reducible refine (awake_any _ E3.out).mono ?_); rintro e w4 ⟨rfl, b4⟩
        have E4 := Lib.hid (E3.out.below b4)
        have B4 := Lib.hid (B3.out.trans (b4.mono B3.out.size))
        replace b4 := Lib.hid b4
        go_wp2_with fail
        go_ret
        exact ⟨rfl, B4.out⟩
    | ok ts =>
      have hca := scan_count hsa
      have hne := (scan_stand hsa).2
      have hpos : 0 < ts.length := List.length_pos_iff.2 hne
      rw [hsa] at hS1 hlines
      simp only [joinL] at hlines
      cases hsb : scan lb with
      | error y =>
        obtain ⟨d, er⟩ := y
        have her : ((er : Int) != 0) = true := by
          rw [bne_iff_ne]
          have := scan_err hsb
          omega
        have hd := scan_err_le hsb
        rw [hsb] at hS2 hlines
        simp only [shift, app] at hlines
        rw [hlines] at hS3
        have q1 : ((er : Int) == (er : Int)) = true := by simp
        have q2 : (((d + (la.length + 1) : Nat) : Int) == (la.length : Int) + 1 + (d : Int)) = true := by rw [beq_iff_eq]; omega
        generalize d + (la.length + 1) = d2 at *
        replace hS1 := Lib.hid hS1
        replace hS2 := Lib.hid hS2
        replace hS3 := Lib.hid hS3
        clear hlines hsa hsb hne
        go_enter Tryd.func4, Tryd.ntmps4
        go_wp2_with fail
        (with_reducible refine (hS1.out _ E0.out).mono ?_); rintro e w1 ⟨b1, v1, rfl, o1⟩
        have E1 := Lib.hid (E0.out.below b1)
        have B1 := Lib.hid (B0.out.trans (b1.mono B0.out.size))
        clear b1 o1
        go_wp2_with fail
        (with_reducible refine (hS2.out _ E1.out).mono ?_); rintro e w2 ⟨b2, rfl⟩
        have E2 := Lib.hid (E1.out.below b2)
        have B2 := Lib.hid (B1.out.trans (b2.mono B1.out.size))
        clear b2
        go_wp2_with fail
        (with_reducible refine (hS3.out _ E2.out).mono ?_); rintro e w3 ⟨b3, rfl⟩
        have E3 := Lib.hid (E2.out.below b3)
        have B3 := Lib.hid (B2.out.trans (b3.mono B2.out.size))
        clear b3
        go_wp2_with fail
        (with_reducible refine (awake_any _ E3.out).mono ?_); rintro e w4 ⟨rfl, b4⟩
        have E4 := Lib.hid (E3.out.below b4)
        have B4 := Lib.hid (B3.out.trans (b4.mono B3.out.size))
        replace b4 := Lib.hid b4
        go_wp2_with fail
        go_ret
        exact ⟨rfl, B4.out⟩
      | ok ms =>
        have hcb := scan_count hsb
        have hposb : 0 < ms.length := List.length_pos_iff.2 (scan_stand hsb).2
        have hps := scan_places hsb
        rw [hsb] at hS2 hlines
        simp only [shift, app] at hlines
        obtain ⟨bs, hbs, hlen3, hat, htk⟩ : ∃ bs, scan (la ++ 10 :: lb) = .ok bs ∧ bs.length = ts.length - 1 + ms.length ∧
            (∀ k (h : k < ms.length), bs[ts.length - 1 + k]? = some ⟨ms[k].kind, ms[k].text, ms[k].pos + ((la.length : Int) + 1)⟩) ∧ bs.take (ts.length - 1) = ts.dropLast := by
          refine ⟨_, hlines, by simp, fun k h => ?_, ?_⟩
          · rw [List.getElem?_append_right (by simp), List.length_dropLast, Nat.add_sub_cancel_left, List.getElem?_map, List.getElem?_eq_getElem h]; rfl
          · rw [List.take_append_of_le_length (by simp), List.take_of_length_le (by simp)]
        rw [hbs] at hS3
        have q1 : ((ts.length : Int) == 0) = false := by rw [beq_eq_false_iff_ne]; omega
        have q2 : ((bs.length : Int) != (ts.length : Int) - 1 + (ms.length : Int)) = false := by rw [bne_eq_false_iff_eq]; omega
        have hb3 : bs.length ≤ 1000 := by omega
        have hb30 : 0 < bs.length := by omega
        have hb31 : ts.length - 1 ≤ bs.length := by omega
        have hb32 : ts.length - 1 + ms.length ≤ bs.length := by omega
        have hdl : Hid (ts.length - 1 = ts.dropLast.length) := show _ = _ by simp
        have htk2 : Hid (ts.dropLast = ts.take (ts.length - 1)) := show _ = _ from List.dropLast_eq_take
        replace htk := Lib.hid htk
        replace hat := Lib.hid hat
        replace hps := Lib.hid hps
        replace hS1 := Lib.hid hS1
        replace hS2 := Lib.hid hS2
        replace hS3 := Lib.hid hS3
        replace hlen3 := Lib.hid hlen3
        clear hlines hsa hsb hne hbs
        go_enter Tryd.func4, Tryd.ntmps4
        go_wp2_with fail
        (with_reducible refine (hS1.out _ E0.out).mono ?_); rintro e w1 ⟨b1, v1, rfl, o1⟩
        obtain ⟨g1, c1, rfl, l1, m1, t1⟩ := owns_open o1 hpos
        have E1 := Lib.hid (E0.out.below b1)
        have B1 := Lib.hid (B0.out.trans (b1.mono B0.out.size))
        unfold maxLen at m1
        clear b1 o1
        go_wp2_with fail
        (with_reducible refine (hS2.out _ E1.out).mono ?_); rintro e w2 ⟨b2, v2, rfl, o2⟩
        obtain ⟨g2, c2, rfl, l2, m2, t2⟩ := owns_open o2 hposb
        have E2 := Lib.hid (E1.out.below b2)
        have B2 := Lib.hid (B1.out.trans (b2.mono B1.out.size))
        replace t1 := t1.below b2
        unfold maxLen at m2
        clear o2 b2
        go_wp2_with fail
        (with_reducible refine (hS3.out _ E2.out).mono ?_); rintro e w3 ⟨b3, v3, rfl, o3⟩
        obtain ⟨g3, c3, rfl, l3, m3, t3⟩ := owns_open o3 hb30
        have E3 := Lib.hid (E2.out.below b3)
        have B3 := Lib.hid (B2.out.trans (b3.mono B2.out.size))
        replace t1 := Lib.hid (t1.below b3)
        replace t2 := Lib.hid (t2.below b3)
        replace t3 := Lib.hid t3
        unfold maxLen at m3
        clear o3 b3
        go_wp2_with fail
        go_loopw [104] (fun i wr => ∃ k : Nat, k ≤ ms.length ∧ i = .int .i64 k ∧ Below w3.heap.size w3 wr) (fun i _ => ms.length - (intOf i).toNat)
        case atStart => exact ⟨0, by omega, rfl, Below.refl _ _⟩
        case round =>
          obtain ⟨k, hk, rfl, hb⟩ := hrel
          have T2 := t2.out.below hb
          have T3 := t3.out.below hb
          by_cases hk1 : k < ms.length
          · obtain ⟨x0, x1, x2⟩ := T2.2 k hk1
            obtain ⟨y0, y1, y2⟩ := T3.get (hat.out k hk1)
            have hpk := hps.out ms[k] (List.getElem_mem hk1)
            have i2 := T2.1
            have i3 := T3.1
            clear T2 T3
            have r5 : (0 : Int) ≤ (ts.length : Int) - 1 + (k : Int) := by omega
            have r6 : (ts.length : Int) - 1 + (k : Int) < (bs.length : Int) := by omega
            have r7 : ((ts.length : Int) - 1 + (k : Int)).toNat = ts.length - 1 + k := by omega
            have rr : IntKind.i64.wrap ((ts.length : Int) - 1) = (ts.length : Int) - 1 ∧ IntKind.i64.wrap ((ts.length : Int) - 1 + (k : Int)) = (ts.length : Int) - 1 + (k : Int) := ⟨IntWalk.i64_in _ (by omega), IntWalk.i64_in _ (by omega)⟩
            obtain ⟨r3, r4⟩ := rr
            generalize ms[k] = t at *
            obtain ⟨kd, tx, ps⟩ := t
            simp only at x0 x1 x2 y0 y1 y2 hpk
            obtain ⟨p0, p1⟩ := hpk
            have hrun : ∀ W, (binOp .neq 32 (.agg #[.int .i64 kd, .string ⟨tx.toArray⟩, .int .i64 (ps + ((la.length : Int) + 1))]) (.agg #[.int .i64 kd, .string ⟨tx.toArray⟩, .int .i64 (ps + ((la.length : Int) + 1))])).run Tryd.prog W = .ok (.bool false) W := by
              intro W
              have := tok_neq_run W ⟨kd, tx, ps + ((la.length : Int) + 1)⟩ ⟨kd, tx, ps + ((la.length : Int) + 1)⟩
              rw [decide_eq_true rfl] at this
              exact this
            have g32 : Tryd.prog.eqGuardType Tryd.prog.depth 32 = false := by kernel_rfl
            replace t1 := t1
            go_wp2_with fail
            go_quiet (fail)
            clear r3 r4 r7
            go_wp2_with fail
            go_roundw
            case rel => exact ⟨k + 1, by omega, by go_num, (below_drawn ((hb.alloc hb.size _)) nq)⟩
            case measure => simp [intOf]; omega
          · have E4 := Lib.hid (E3.out.below hb)
            have B4 := Lib.hid (B3.out.trans (hb.mono B3.out.size))
            have T1 := t1.out.below hb
            clear T2
            have u3 := Lib.hid (sub_sl (c := c3) (T3.below ((Below.refl _ _).drew)) htk.out.symm hdl.out)
            have u1 := Lib.hid (sub_sl (c := c1) (T1.below ((Below.refl _ _).drew)) htk2.out hdl.out)
            clear T1 T3
            have r5 : (0 : Int) ≤ (ts.length : Int) - 1 := by omega
            have r5' : (1 : Int) ≤ (ts.length : Int) := by omega
            have r6 : (ts.length : Int) - 1 ≤ (c3 : Int) := by omega
            have r6' : (ts.length : Int) - 1 ≤ (c1 : Int) := by omega
            have r7 : ((ts.length : Int) - 1).toNat = ts.length - 1 := by omega
            have r3 : IntKind.i64.wrap ((ts.length : Int) - 1) = (ts.length : Int) - 1 := IntWalk.i64_in _ (by omega)
            have hl : Hid (ts.dropLast.length ≤ 1000000000) := show _ ≤ _ by rw [← hdl.out]; omega
            go_wp2_with fail
            go_region_held3 (fun w' => Env w') (first | exact E4.out.drew | exact (E4.out.drew.below b5) | exact ((E4.out.drew.below b5).below b6))
              (first | (go_at_call 10; refine (same_any _ _ _ ts.dropLast ts.dropLast u3.out u1.out hl.out hl.out).mono ?_; rintro e w5 ⟨rfl, h5⟩; rw [decide_eq_true (rfl : ts.dropLast = ts.dropLast)]; have b5 := below_of_some h5; clear h5) | (go_at_call 6; refine (awake_any _ (E4.out.drew.below b5)).mono ?_; rintro e w6 ⟨rfl, b6⟩))
            go_wp2_with fail
            go_ret
            exact ⟨rfl, (B4.out.trans (((Below.refl _ _).drew).mono B4.out.size)).trans ((b5.trans (b6.mono (by have := b5.size; omega))).mono (by have := B4.out.size; simp; omega))⟩
end Go.Proofs.YtpgedklpnnhjlaaDoor
