/- Joined: LawSpc. -/
import Derived.Test.YtekccolabhfopaaGreatDoorJ37
import Derived.Test.YtekccolabhfopaaGreatDoorJ41
set_option linter.unusedVariables false
set_option linter.unusedSimpArgs false
section
/- Walks: the statement ParserSpaces. -/
set_option maxHeartbeats 4000000
set_option maxRecDepth 100000
namespace Go.Proofs.YtekccolabhfopaaGreatDoor
open Go.RowKit
theorem stand_sum (s : List UInt8) : ∀ (ts : List Tok) (p : Nat), Stand s p ts → p + (ts.map fun t => t.text.length).sum ≤ s.length
  | [], p, h => by simp only [List.map_nil, List.sum_nil]; have : p = s.length := h; omega
  | t :: r, p, h => by
    obtain ⟨h1, h2, h3, h4, h5⟩ := h
    have := stand_sum s r _ h5
    simp only [List.map_cons, List.sum_cons]
    omega
/-- A token's text and a separator; nothing of the end. -/
def spell (bt : List UInt8) (t : Tok) : List UInt8 := if t.kind = 3 then [] else t.text ++ bt
theorem spell_len (bt : List UInt8) : ∀ ts : List Tok, (ts.flatMap (spell bt)).length ≤ (ts.map fun t => t.text.length).sum + ts.length * bt.length
  | [] => by simp
  | t :: r => by
    have := spell_len bt r
    have h1 : (spell bt t).length ≤ t.text.length + bt.length := by unfold spell; split <;> simp
    rw [List.flatMap_cons, List.length_append, List.map_cons, List.sum_cons, List.length_cons, Nat.add_mul, Nat.one_mul]
    omega
theorem spell_kts (bt : List UInt8) {C : List KT} (hC : Toks C) : ∀ (T : List Tok), kts T = C ++ [ktEnd] → T.flatMap (spell bt) = C.flatMap fun x => x.2 ++ bt := by
  induction C with
  | nil =>
    intro T h
    match T, h with
    | [t], h =>
      have : t.kind = 3 := congrArg Prod.fst (List.cons.inj h).1
      simp [spell, this]
    | [], h => cases h
    | _ :: _ :: _, h => cases (List.cons.inj h).2
  | cons x r ih =>
    intro T h
    match T, h with
    | [], h => cases h
    | t :: T, h =>
      have h1 := (List.cons.inj h).1
      have h2 : kts T = r ++ [ktEnd] := (List.cons.inj h).2
      have hk := hC.kind (List.mem_cons_self ..)
      rw [← h1] at hk ⊢
      rw [List.flatMap_cons, List.flatMap_cons, ih (fun y hy => hC y (List.mem_cons_of_mem _ hy)) T h2]
      unfold spell
      rw [if_neg hk]
/-- The three separators. -/
def btw (k : Nat) : List UInt8 := if k = 0 then [32] else if k = 1 then [10] else [9, 35, 32, 40, 10]
theorem spaces_plain {l : List UInt8} {T : List Tok} {k : Nat} (h : scan l = .ok T) (hl : l.length ≤ 1200) (hk : k < 3) :
    (btw k ++ T.flatMap (spell (btw k))).length ≤ 8000 ∧ T.length ≤ 1201 ∧ (∃ U, scan (btw k ++ T.flatMap (spell (btw k))) = .ok U) ∧ TwS (parseO l progR) (parseO (btw k ++ T.flatMap (spell (btw k))) progR) := by
  obtain ⟨C, hT, hC⟩ := scan_toks h
  have hb : (btw k).length ≤ 5 := by unfold btw; split; · simp
                                     · split <;> simp
  have h1 := stand_sum l T 0 (scan_stand h).1
  have h2 := spell_len (btw k) T
  have h3 := (scanned h).len
  have h4 : T.length * (btw k).length ≤ T.length * 5 := Nat.mul_le_mul_left _ hb
  have hlen : (btw k ++ T.flatMap (spell (btw k))).length ≤ 8000 := by rw [List.length_append]; omega
  have hx : Lx (btw k ++ T.flatMap (spell (btw k))) (C ++ [ktEnd]) := by
    rw [spell_kts _ hC T hT]
    have : k = 0 ∨ k = 1 ∨ k = 2 := by omega
    rcases this with rfl | rfl | rfl
    · exact lx_spread hC (bt := [32]) rfl (by decide) (by decide) (fun y => by simp only [List.cons_append, List.nil_append]; rw [skip_ff, if_neg (by decide), if_pos (by decide)]; simp only [List.length_cons, List.length_nil]; omega)
    · exact lx_spread hC (bt := [10]) rfl (by decide) (by decide) (fun y => by simp only [List.cons_append, List.nil_append]; rw [skip_ff, if_neg (by decide), if_pos (by decide)]; simp only [List.length_cons, List.length_nil]; omega)
    · exact lx_spread hC (bt := [9, 35, 32, 40, 10]) rfl (by decide) (by decide) (fun y => by
        simp only [List.cons_append, List.nil_append]
        rw [skip_ff, if_neg (by decide), if_pos (by decide), skip_ff, if_pos (by decide), skip_tt, if_neg (by decide), skip_tt, if_neg (by decide), skip_tt, if_pos (by decide)]
        simp only [List.length_cons, List.length_nil]; omega)
  obtain ⟨U, hU, hUk⟩ := scan_lx hx (by omega)
  refine ⟨hlen, by omega, ⟨U, hU⟩, ?_⟩
  have hA : AlkT T U := alk_kts (hT.trans hUk.symm)
  unfold parseO
  rw [h, hU]
  have e : fuelOf U = fuelOf T := by unfold fuelOf; rw [hA.len]
  show TwS (whole T (program reservedB T (fuelOf T))) (whole U (program reservedB U (fuelOf U)))
  rw [e]
  exact whole_k hA (program_k hA)
theorem tokAt_below {w w' : World} {g : Nat} {ts : List Tok} (h : TokAt w g ts) (hb : Below w.heap.size w w') : TokAt w' g ts :=
  ⟨by have := hb.size; have := h.1; omega, fun k hk => by rw [hb.cell h.1, hb.cell h.1, hb.cell h.1]; exact h.2 k hk⟩
theorem u8_bounds {a : Int} (h : (Lit.int .u8 a).wf = true) : 0 ≤ a ∧ a ≤ 255 := by
  have h1 : IntKind.u8.min = 0 := rfl
  have h2 : IntKind.u8.max = 255 := rfl
  simp only [Lit.wf, Bool.and_eq_true, decide_eq_true_eq] at h
  omega
theorem walkSpaces (s : ByteArray) (a : Int) (w : World) (hs : s.size ≤ maxLen) (ha : (Lit.int .u8 a).wf = true) (he : PEnv w) :
    Calls Tryz.prog 7 #[.string s, .int .u8 a] w fun e w' => e = .returned (.bool true) ∧ Below w.heap.size w w' := by
  have hsm := Lib.hid (short08_any s w hs)
  by_cases hb : s.size ≤ 1200
  · rw [decide_eq_true hb] at hsm
    obtain ⟨l, rfl⟩ : ∃ l : List UInt8, s = ⟨l.toArray⟩ := ⟨s.data.toList, by simp⟩
    rw [ba_size] at hb
    have hSc := Lib.hid (fun W (E : PEnv W) => scan_any l W (by omega) E.signs E.signs.lt')
    have hP := Lib.hid (fun W h => fullParse_any l W (by omega) h)
    have hS := parseO_sm l progR (by omega) (fun T hT => program_sm hT 0 0)
    replace he := Lib.hid he
    clear hs
    cases hT : scan l with
    | error x =>
      obtain ⟨d, er⟩ := x
      have her : ((er : Int) != 0) = true := by
        rw [bne_iff_ne]
        have := scan_err hT
        omega
      rw [hT] at hSc
      clear hb ha hT hS hP
      go_enter Tryz.func7, Tryz.ntmps7
      go_wp2_with fail
      (with_reducible refine (hsm.out).mono ?_); rintro e w1 ⟨rfl, rfl⟩
      go_wp2_with fail
      (with_reducible refine (hSc.out _ he.out).mono ?_); rintro e w2 ⟨b2, rfl⟩
      have E2 := Lib.hid (he.out.below b2)
      have B2 := Lib.hid b2
      clear b2
      go_wp2_with fail
      (with_reducible refine (awake08_any _ E2.out).mono ?_); rintro e w3 ⟨rfl, b3⟩
      have B3 := Lib.hid (B2.out.trans (b3.mono B2.out.size))
      clear b3
      go_wp2_with fail
      go_ret
      exact ⟨rfl, B3.out⟩
    | ok T =>
      rw [hT] at hSc
      obtain ⟨k, hk3, hka⟩ : ∃ k : Nat, k < 3 ∧ a % 3 = k := ⟨(a % 3).toNat, by omega, by omega⟩
      obtain ⟨pl1, pl2, ⟨U, hU⟩, pl3⟩ := spaces_plain (k := k) hT hb hk3
      have hTl : 0 < T.length := (scanned hT).pos
      have g13 : decide ((1300 : Int) < (T.length : Int)) = false := by rw [decide_eq_false_iff_not]; omega
      have g13' : decide (1300 < T.length) = false := by rw [decide_eq_false_iff_not]; omega
      clear hb hT
      have hk : k = 0 ∨ k = 1 ∨ k = 2 := by omega
      have hkt : a.tmod 3 = k := by rw [Int.tmod_eq_emod_of_nonneg (u8_bounds ha).1, hka]
      clear hk3
      rcases hk with rfl | rfl | rfl
      · skip
        go_enter Tryz.func7, Tryz.ntmps7
        go_wp2_with fail
        (with_reducible refine (hsm.out).mono ?_); rintro e w1 ⟨rfl, rfl⟩
        go_wp2_with fail
        (with_reducible refine (hSc.out _ he.out).mono ?_); rintro e w2 ⟨b2, v, rfl, o2⟩
        obtain ⟨g1, c1, rfl, l1, m1⟩ := o2.form hTl
        have t1 := tokAt_owns o2
        have E2 := Lib.hid (he.out.below b2)
        have B2 := Lib.hid b2
        clear b2 o2
        replace t1 := Lib.hid t1
        go_upto_region 8 with (fail)
        have bA : Below w2.heap.size w2 (w2.alloc (.cells #[.string ⟨#[32]⟩, .string ⟨#[10]⟩, .string ⟨#[9, 35, 32, 40, 10]⟩] 9)) := (Below.refl _ _).alloc (Nat.le_refl _) _
        replace E2 := Lib.hid (E2.out.below bA)
        replace B2 := Lib.hid (B2.out.trans (bA.mono B2.out.size))
        replace t1 := Lib.hid (tokAt_below t1.out bA)
        clear bA
        generalize World.alloc w2 _ = w3 at E2 B2 t1 ⊢
        change (([] : List UInt8) ++ [32] ++ _).length ≤ _ at pl1
        have hbl : ([32] : List UInt8).length ≤ 5 := by decide
        rw [show btw 0 = [32] from rfl] at pl1 pl3 hU
        rw [List.nil_append] at pl1
        generalize ([32] : List UInt8) = bt at *
        replace pl3 := Lib.hid pl3
        replace pl1 := Lib.hid pl1
        replace hU := Lib.hid hU
        go_wp2_with fail
        go_loopw [9, 47] (fun o i wr => (∃ (k : Nat) (acc : List UInt8), k ≤ T.length ∧ i = .int .i64 k ∧ o = .string ⟨acc.toArray⟩ ∧ Hid (acc = bt ++ (T.take k).flatMap (spell bt))) ∧ Hid (Below w3.heap.size w3 wr)) (fun _ i _ => T.length - (intOf i).toNat)
        case atStart => exact ⟨⟨0, bt, by omega, rfl, rfl, show _ = _ by simp⟩, Lib.hid (Below.refl _ _)⟩
        case round =>
          obtain ⟨⟨k, acc, hk, rfl, rfl, hacc⟩, hbw⟩ := hrel
          by_cases hlt : k < T.length
          · obtain ⟨d0, d1, d2⟩ := (tokAt_below t1.out hbw.out).2 k hlt
            have gl1 := (tokAt_below t1.out hbw.out).1
            have hstep : Hid (acc ++ spell bt T[k] = bt ++ (T.take (k + 1)).flatMap (spell bt)) := show _ = _ by
              rw [hacc.out, List.take_succ_eq_append_getElem hlt, List.flatMap_append, List.append_assoc]
              simp
            have hal : (acc ++ spell bt T[k]).length ≤ 8000 := by
              rw [hstep.out]
              have h1 := pl1.out
              have h2 : T.flatMap (spell bt) = (T.take (k + 1)).flatMap (spell bt) ++ (T.drop (k + 1)).flatMap (spell bt) := by rw [← List.flatMap_append, List.take_append_drop]
              rw [h2] at h1
              simp only [List.length_append] at h1 ⊢
              omega
            generalize T[k] = t at *
            obtain ⟨kd, tx, ps⟩ := t
            simp only at d0 d1 d2
            have hbA : Below wr.heap.size wr (wr.alloc (.cells #[.int .i64 kd, .string ⟨List.toArray tx⟩, .int .i64 ps] 38)) := (Below.refl _ _).alloc (Nat.le_refl _) _
            have hn := heap_alloc_new wr (.cells #[.int .i64 kd, .string ⟨List.toArray tx⟩, .int .i64 ps] 38)
            by_cases h3 : kd = 3
            · subst h3
              have hst : Hid (acc = bt ++ (T.take (k + 1)).flatMap (spell bt)) := show _ = _ by
                rw [← hstep.out]; simp [spell]
              clear hstep hal hacc
              go_wp2_with fail
              go_roundw
              case rel => exact ⟨⟨k + 1, acc, by omega, by go_num, rfl, hst.out⟩, Lib.hid (hbw.out.trans (hbA.mono hbw.out.size))⟩
              case measure => simp [intOf]; omega
            · have hst : Hid (acc ++ (tx ++ bt) = bt ++ (T.take (k + 1)).flatMap (spell bt)) := show _ = _ by
                rw [← hstep.out]; simp [spell, h3]
              have hk3 : (kd != 3) = true := by rw [bne_iff_ne]; exact h3
              have hal2 : acc.length + tx.length ≤ 8000 := by
                have := hal
                simp only [spell, h3, if_false, List.length_append] at this
                omega
              clear hstep hal h3 hacc
              go_wp2_with fail
              go_roundw
              case rel => exact ⟨⟨k + 1, _, by omega, by go_num, rfl, hst⟩, Lib.hid (hbw.out.trans (hbA.mono hbw.out.size))⟩
              case measure => simp [intOf]; omega
          · have hac : acc = bt ++ T.flatMap (spell bt) := by rw [hacc.out, List.take_of_length_le (by omega)]
            replace pl3 := pl3.out
            replace hU := hU.out
            replace pl1 := pl1.out
            rw [← hac] at pl1 pl3 hU
            clear hacc hac
            have hP2 := Lib.hid (fun W h => fullParse_any acc W (by omega) h)
            have hR := refScan_any acc
            rw [hU] at hR
            replace hR := Lib.hid (fun W => hR W (by omega))
            have hS2 := parseO_sm acc progR (by omega) (fun T hT => program_sm hT 0 0)
            have E3 := Lib.hid (E2.out.below hbw.out)
            have B3 := Lib.hid (B2.out.trans (hbw.out.mono B2.out.size))
            clear hU pl1 t1 E2 B2 hbw
            cases ho : parseO l progR with
            | none => exact absurd ho (parseO_nn l _ fun T h => progR_nn h)
            | err p x =>
              cases ho2 : parseO acc progR with
              | none => exact absurd ho2 (parseO_nn acc _ fun T h => progR_nn h)
              | ok t j => rw [ho, ho2] at pl3; exact pl3.elim
              | err q y =>
                rw [ho, ho2] at pl3
                obtain rfl : x = y := pl3
                have q1 : ((x : Int) == (x : Int)) = true := by simp
                replace hP := hP.out
                replace hP2 := hP2.out
                rw [ho] at hP
                rw [ho2] at hP2
                replace hP := Lib.hid hP
                replace hP2 := Lib.hid hP2
                clear ho ho2 hS hS2
                go_wp2_with fail
                (with_reducible refine (hP.out _ E3.out).mono ?_); rintro e w4 ⟨b4, h4⟩
                subst h4
                have E4 := Lib.hid (E3.out.below b4)
                have B4 := Lib.hid (B3.out.trans (b4.mono B3.out.size))
                clear b4
                go_upto_region 15 with (fail)
                have bA : Below w4.heap.size w4 (w4.alloc (.cells #[.int .i64 0, .string ⟨List.toArray []⟩, .int .i64 0, .int .i64 0, .slice none 0 0] 26)) := (Below.refl _ _).alloc (Nat.le_refl _) _
                have hn4 := heap_alloc_new w4 (.cells #[.int .i64 0, .string ⟨List.toArray []⟩, .int .i64 0, .int .i64 0, .slice none 0 0] 26)
                have E4m := Lib.hid (E4.out.below bA)
                have B4m := Lib.hid (B4.out.trans (bA.mono B4.out.size))
                generalize World.alloc w4 _ = w4m at hn4 E4m B4m ⊢
                generalize w4.heap.size = N4 at hn4 ⊢
                replace hn4 := Lib.hid hn4
                clear bA
                go_wp2_with fail
                (with_reducible refine (hP2.out _ E4m.out).mono ?_); rintro e w5 ⟨b5, h5⟩
                subst h5
                have E5 := Lib.hid (E4m.out.below b5)
                have B5 := Lib.hid (B4m.out.trans (b5.mono B4m.out.size))
                replace hn4 := Lib.hid ((b5.block _ (Array.getElem?_eq_some_iff.1 hn4.out).1).trans hn4.out)
                clear b5
                go_upto_region 16 with (fail)
                have bA : Below w5.heap.size w5 (w5.alloc (.cells #[.int .i64 0, .string ⟨List.toArray []⟩, .int .i64 0, .int .i64 0, .slice none 0 0] 26)) := (Below.refl _ _).alloc (Nat.le_refl _) _
                have hn5 := heap_alloc_new w5 (.cells #[.int .i64 0, .string ⟨List.toArray []⟩, .int .i64 0, .int .i64 0, .slice none 0 0] 26)
                have E5m := Lib.hid (E5.out.below bA)
                have B5m := Lib.hid (B5.out.trans (bA.mono B5.out.size))
                replace hn4 := Lib.hid ((bA.block _ (Array.getElem?_eq_some_iff.1 hn4.out).1).trans hn4.out)
                generalize World.alloc w5 _ = w5m at hn4 hn5 E5m B5m ⊢
                generalize w5.heap.size = N5 at hn5 ⊢
                replace hn5 := Lib.hid hn5
                clear bA
                go_wp2_with fail
                (with_reducible refine (hR.out _).mono ?_); rintro e w6 ⟨b6, v6, rfl, -⟩
                have E6 := Lib.hid (E5m.out.below b6)
                have B6 := Lib.hid (B5m.out.trans (b6.mono B5m.out.size))
                obtain ⟨⟨x0, x1, x2, x3, x4⟩, -⟩ := own5 ((b6.block _ (Array.getElem?_eq_some_iff.1 hn4.out).1).trans hn4.out)
                obtain ⟨⟨y0, y1, y2, y3, y4⟩, -⟩ := own5 ((b6.block _ (Array.getElem?_eq_some_iff.1 hn5.out).1).trans hn5.out)
                have hcall := Lib.hid (same08_any 100 (fun _ => True) (fun _ => True) 0 0 0 0 [] [] [] (.slice none 0 0) (.slice none 0 0) w6 (by decide) .nil (by decide) .none .none (fun z h => (List.not_mem_nil h).elim))
                clear hn4 hn5 b6
                go_wp2_with fail
                (with_reducible refine (hcall.out).mono ?_); rintro e w7 ⟨rfl, b7⟩
                have E7 := Lib.hid (E6.out.below b7)
                have B7 := Lib.hid (B6.out.trans (b7.mono B6.out.size))
                clear b7
                go_wp2_with fail
                (with_reducible refine (awake08_any _ E7.out).mono ?_); rintro e w8 ⟨rfl, b8⟩
                have B8 := Lib.hid (B7.out.trans (b8.mono B7.out.size))
                clear b8
                go_wp2_with fail
                go_ret
                exact ⟨rfl, B8.out⟩
            | ok t j =>
              cases ho2 : parseO acc progR with
              | none => exact absurd ho2 (parseO_nn acc _ fun T h => progR_nn h)
              | err q y => rw [ho, ho2] at pl3; exact pl3.elim
              | ok t2 j2 =>
                rw [ho, ho2] at pl3
                replace hP := hP.out
                replace hP2 := hP2.out
                rw [ho] at hP hS
                rw [ho2] at hP2
                obtain ⟨-, htw⟩ := pl3
                clear ho ho2 hS2
                replace hP := Lib.hid hP
                replace hP2 := Lib.hid hP2
                cases htw with
                | @mk kd tx n a1 a2 kids kids2 hpp htl =>
                cases (show Small _ from hS) with
                | mk hq1 hq2 =>
                replace hq2 := Lib.hid hq2
                clear hS
                go_wp2_with fail
                (with_reducible refine (hP.out _ E3.out).mono ?_); rintro e w4 ⟨b4, v, rfl, kv, rfl, hk⟩
                simp only [Syn.kind, Syn.text, Syn.num, Syn.pos, Syn.kids] at hk ⊢
                obtain ⟨p, m, c, rfl⟩ := hk.shape
                have E4 := Lib.hid (E3.out.below b4)
                have B4 := Lib.hid (B3.out.trans (b4.mono B3.out.size))
                clear b4
                replace hk := Lib.hid hk
                go_upto_region 15 with (fail)
                have bA : Below w4.heap.size w4 (w4.alloc (.cells #[.int .i64 kd, .string ⟨List.toArray tx⟩, .int .i64 n, .int .i64 a1, .slice p m c] 26)) := (Below.refl _ _).alloc (Nat.le_refl _) _
                have hn4 := heap_alloc_new w4 (.cells #[.int .i64 kd, .string ⟨List.toArray tx⟩, .int .i64 n, .int .i64 a1, .slice p m c] 26)
                have E4m := Lib.hid (E4.out.below bA)
                have B4m := Lib.hid (B4.out.trans (bA.mono B4.out.size))
                replace hk := Lib.hid (kids_below hk.out bA)
                generalize World.alloc w4 _ = w4m at hn4 E4m B4m hk ⊢
                generalize w4.heap.size = N4 at hn4 hk ⊢
                replace hn4 := Lib.hid hn4
                clear bA
                go_wp2_with fail
                (with_reducible refine (hP2.out _ E4m.out).mono ?_); rintro e w5 ⟨b5, v, rfl, kv, rfl, hk'⟩
                simp only [Syn.kind, Syn.text, Syn.num, Syn.pos, Syn.kids] at hk' ⊢
                obtain ⟨p', m', c', rfl⟩ := hk'.shape
                have E5 := Lib.hid (E4m.out.below b5)
                have B5 := Lib.hid (B4m.out.trans (b5.mono B4m.out.size))
                replace hn4 := Lib.hid ((b5.block _ (Array.getElem?_eq_some_iff.1 hn4.out).1).trans hn4.out)
                replace hk := Lib.hid (kids_below hk.out b5)
                clear b5
                replace hk' := Lib.hid hk'
                go_upto_region 16 with (fail)
                have bA : Below w5.heap.size w5 (w5.alloc (.cells #[.int .i64 kd, .string ⟨List.toArray tx⟩, .int .i64 n, .int .i64 a2, .slice p' m' c'] 26)) := (Below.refl _ _).alloc (Nat.le_refl _) _
                have hn5 := heap_alloc_new w5 (.cells #[.int .i64 kd, .string ⟨List.toArray tx⟩, .int .i64 n, .int .i64 a2, .slice p' m' c'] 26)
                have E5m := Lib.hid (E5.out.below bA)
                have B5m := Lib.hid (B5.out.trans (bA.mono B5.out.size))
                replace hn4 := Lib.hid ((bA.block _ (Array.getElem?_eq_some_iff.1 hn4.out).1).trans hn4.out)
                replace hk := Lib.hid (kids_below hk.out bA)
                replace hk' := Lib.hid (kids_below hk'.out bA)
                generalize World.alloc w5 _ = w5m at hn4 hn5 E5m B5m hk hk' ⊢
                generalize w5.heap.size = N5 at hn5 hk' ⊢
                replace hn5 := Lib.hid hn5
                clear bA
                go_wp2_with fail
                (with_reducible refine (hR.out _).mono ?_); rintro e w6 ⟨b6, v6, rfl, -⟩
                have E6 := Lib.hid (E5m.out.below b6)
                have B6 := Lib.hid (B5m.out.trans (b6.mono B5m.out.size))
                obtain ⟨⟨x0, x1, x2, x3, x4⟩, -⟩ := own5 ((b6.block _ (Array.getElem?_eq_some_iff.1 hn4.out).1).trans hn4.out)
                obtain ⟨⟨y0, y1, y2, y3, y4⟩, -⟩ := own5 ((b6.block _ (Array.getElem?_eq_some_iff.1 hn5.out).1).trans hn5.out)
                have hcall := Lib.hid (same08_any (SizeOf.sizeOf kids + 1) _ _ kd n a1 a2 tx kids kids2 (.slice p m c) (.slice p' m' c') w6 (by omega) htl hq1 (kids_below hk.out b6) (kids_below hk'.out b6) hq2.out)
                clear hn4 hn5 b6 hk hk'
                go_wp2_with fail
                (with_reducible refine (hcall.out).mono ?_); rintro e w7 ⟨rfl, b7⟩
                have E7 := Lib.hid (E6.out.below b7)
                have B7 := Lib.hid (B6.out.trans (b7.mono B6.out.size))
                clear b7
                go_wp2_with fail
                (with_reducible refine (awake08_any _ E7.out).mono ?_); rintro e w8 ⟨rfl, b8⟩
                have B8 := Lib.hid (B7.out.trans (b8.mono B7.out.size))
                clear b8
                go_wp2_with fail
                go_ret
                exact ⟨rfl, B8.out⟩
      · skip
        go_enter Tryz.func7, Tryz.ntmps7
        go_wp2_with fail
        (with_reducible refine (hsm.out).mono ?_); rintro e w1 ⟨rfl, rfl⟩
        go_wp2_with fail
        (with_reducible refine (hSc.out _ he.out).mono ?_); rintro e w2 ⟨b2, v, rfl, o2⟩
        obtain ⟨g1, c1, rfl, l1, m1⟩ := o2.form hTl
        have t1 := tokAt_owns o2
        have E2 := Lib.hid (he.out.below b2)
        have B2 := Lib.hid b2
        clear b2 o2
        replace t1 := Lib.hid t1
        go_upto_region 8 with (fail)
        have bA : Below w2.heap.size w2 (w2.alloc (.cells #[.string ⟨#[32]⟩, .string ⟨#[10]⟩, .string ⟨#[9, 35, 32, 40, 10]⟩] 9)) := (Below.refl _ _).alloc (Nat.le_refl _) _
        replace E2 := Lib.hid (E2.out.below bA)
        replace B2 := Lib.hid (B2.out.trans (bA.mono B2.out.size))
        replace t1 := Lib.hid (tokAt_below t1.out bA)
        clear bA
        generalize World.alloc w2 _ = w3 at E2 B2 t1 ⊢
        change (([] : List UInt8) ++ [10] ++ _).length ≤ _ at pl1
        have hbl : ([10] : List UInt8).length ≤ 5 := by decide
        rw [show btw 1 = [10] from rfl] at pl1 pl3 hU
        rw [List.nil_append] at pl1
        generalize ([10] : List UInt8) = bt at *
        replace pl3 := Lib.hid pl3
        replace pl1 := Lib.hid pl1
        replace hU := Lib.hid hU
        go_wp2_with fail
        go_loopw [9, 47] (fun o i wr => (∃ (k : Nat) (acc : List UInt8), k ≤ T.length ∧ i = .int .i64 k ∧ o = .string ⟨acc.toArray⟩ ∧ Hid (acc = bt ++ (T.take k).flatMap (spell bt))) ∧ Hid (Below w3.heap.size w3 wr)) (fun _ i _ => T.length - (intOf i).toNat)
        case atStart => exact ⟨⟨0, bt, by omega, rfl, rfl, show _ = _ by simp⟩, Lib.hid (Below.refl _ _)⟩
        case round =>
          obtain ⟨⟨k, acc, hk, rfl, rfl, hacc⟩, hbw⟩ := hrel
          by_cases hlt : k < T.length
          · obtain ⟨d0, d1, d2⟩ := (tokAt_below t1.out hbw.out).2 k hlt
            have gl1 := (tokAt_below t1.out hbw.out).1
            have hstep : Hid (acc ++ spell bt T[k] = bt ++ (T.take (k + 1)).flatMap (spell bt)) := show _ = _ by
              rw [hacc.out, List.take_succ_eq_append_getElem hlt, List.flatMap_append, List.append_assoc]
              simp
            have hal : (acc ++ spell bt T[k]).length ≤ 8000 := by
              rw [hstep.out]
              have h1 := pl1.out
              have h2 : T.flatMap (spell bt) = (T.take (k + 1)).flatMap (spell bt) ++ (T.drop (k + 1)).flatMap (spell bt) := by rw [← List.flatMap_append, List.take_append_drop]
              rw [h2] at h1
              simp only [List.length_append] at h1 ⊢
              omega
            generalize T[k] = t at *
            obtain ⟨kd, tx, ps⟩ := t
            simp only at d0 d1 d2
            have hbA : Below wr.heap.size wr (wr.alloc (.cells #[.int .i64 kd, .string ⟨List.toArray tx⟩, .int .i64 ps] 38)) := (Below.refl _ _).alloc (Nat.le_refl _) _
            have hn := heap_alloc_new wr (.cells #[.int .i64 kd, .string ⟨List.toArray tx⟩, .int .i64 ps] 38)
            by_cases h3 : kd = 3
            · subst h3
              have hst : Hid (acc = bt ++ (T.take (k + 1)).flatMap (spell bt)) := show _ = _ by
                rw [← hstep.out]; simp [spell]
              clear hstep hal hacc
              go_wp2_with fail
              go_roundw
              case rel => exact ⟨⟨k + 1, acc, by omega, by go_num, rfl, hst.out⟩, Lib.hid (hbw.out.trans (hbA.mono hbw.out.size))⟩
              case measure => simp [intOf]; omega
            · have hst : Hid (acc ++ (tx ++ bt) = bt ++ (T.take (k + 1)).flatMap (spell bt)) := show _ = _ by
                rw [← hstep.out]; simp [spell, h3]
              have hk3 : (kd != 3) = true := by rw [bne_iff_ne]; exact h3
              have hal2 : acc.length + tx.length ≤ 8000 := by
                have := hal
                simp only [spell, h3, if_false, List.length_append] at this
                omega
              clear hstep hal h3 hacc
              go_wp2_with fail
              go_roundw
              case rel => exact ⟨⟨k + 1, _, by omega, by go_num, rfl, hst⟩, Lib.hid (hbw.out.trans (hbA.mono hbw.out.size))⟩
              case measure => simp [intOf]; omega
          · have hac : acc = bt ++ T.flatMap (spell bt) := by rw [hacc.out, List.take_of_length_le (by omega)]
            replace pl3 := pl3.out
            replace hU := hU.out
            replace pl1 := pl1.out
            rw [← hac] at pl1 pl3 hU
            clear hacc hac
            have hP2 := Lib.hid (fun W h => fullParse_any acc W (by omega) h)
            have hR := refScan_any acc
            rw [hU] at hR
            replace hR := Lib.hid (fun W => hR W (by omega))
            have hS2 := parseO_sm acc progR (by omega) (fun T hT => program_sm hT 0 0)
            have E3 := Lib.hid (E2.out.below hbw.out)
            have B3 := Lib.hid (B2.out.trans (hbw.out.mono B2.out.size))
            clear hU pl1 t1 E2 B2 hbw
            cases ho : parseO l progR with
            | none => exact absurd ho (parseO_nn l _ fun T h => progR_nn h)
            | err p x =>
              cases ho2 : parseO acc progR with
              | none => exact absurd ho2 (parseO_nn acc _ fun T h => progR_nn h)
              | ok t j => rw [ho, ho2] at pl3; exact pl3.elim
              | err q y =>
                rw [ho, ho2] at pl3
                obtain rfl : x = y := pl3
                have q1 : ((x : Int) == (x : Int)) = true := by simp
                replace hP := hP.out
                replace hP2 := hP2.out
                rw [ho] at hP
                rw [ho2] at hP2
                replace hP := Lib.hid hP
                replace hP2 := Lib.hid hP2
                clear ho ho2 hS hS2
                go_wp2_with fail
                (with_reducible refine (hP.out _ E3.out).mono ?_); rintro e w4 ⟨b4, h4⟩
                subst h4
                have E4 := Lib.hid (E3.out.below b4)
                have B4 := Lib.hid (B3.out.trans (b4.mono B3.out.size))
                clear b4
                go_upto_region 15 with (fail)
                have bA : Below w4.heap.size w4 (w4.alloc (.cells #[.int .i64 0, .string ⟨List.toArray []⟩, .int .i64 0, .int .i64 0, .slice none 0 0] 26)) := (Below.refl _ _).alloc (Nat.le_refl _) _
                have hn4 := heap_alloc_new w4 (.cells #[.int .i64 0, .string ⟨List.toArray []⟩, .int .i64 0, .int .i64 0, .slice none 0 0] 26)
                have E4m := Lib.hid (E4.out.below bA)
                have B4m := Lib.hid (B4.out.trans (bA.mono B4.out.size))
                generalize World.alloc w4 _ = w4m at hn4 E4m B4m ⊢
                generalize w4.heap.size = N4 at hn4 ⊢
                replace hn4 := Lib.hid hn4
                clear bA
                go_wp2_with fail
                (with_reducible refine (hP2.out _ E4m.out).mono ?_); rintro e w5 ⟨b5, h5⟩
                subst h5
                have E5 := Lib.hid (E4m.out.below b5)
                have B5 := Lib.hid (B4m.out.trans (b5.mono B4m.out.size))
                replace hn4 := Lib.hid ((b5.block _ (Array.getElem?_eq_some_iff.1 hn4.out).1).trans hn4.out)
                clear b5
                go_upto_region 16 with (fail)
                have bA : Below w5.heap.size w5 (w5.alloc (.cells #[.int .i64 0, .string ⟨List.toArray []⟩, .int .i64 0, .int .i64 0, .slice none 0 0] 26)) := (Below.refl _ _).alloc (Nat.le_refl _) _
                have hn5 := heap_alloc_new w5 (.cells #[.int .i64 0, .string ⟨List.toArray []⟩, .int .i64 0, .int .i64 0, .slice none 0 0] 26)
                have E5m := Lib.hid (E5.out.below bA)
                have B5m := Lib.hid (B5.out.trans (bA.mono B5.out.size))
                replace hn4 := Lib.hid ((bA.block _ (Array.getElem?_eq_some_iff.1 hn4.out).1).trans hn4.out)
                generalize World.alloc w5 _ = w5m at hn4 hn5 E5m B5m ⊢
                generalize w5.heap.size = N5 at hn5 ⊢
                replace hn5 := Lib.hid hn5
                clear bA
                go_wp2_with fail
                (with_reducible refine (hR.out _).mono ?_); rintro e w6 ⟨b6, v6, rfl, -⟩
                have E6 := Lib.hid (E5m.out.below b6)
                have B6 := Lib.hid (B5m.out.trans (b6.mono B5m.out.size))
                obtain ⟨⟨x0, x1, x2, x3, x4⟩, -⟩ := own5 ((b6.block _ (Array.getElem?_eq_some_iff.1 hn4.out).1).trans hn4.out)
                obtain ⟨⟨y0, y1, y2, y3, y4⟩, -⟩ := own5 ((b6.block _ (Array.getElem?_eq_some_iff.1 hn5.out).1).trans hn5.out)
                have hcall := Lib.hid (same08_any 100 (fun _ => True) (fun _ => True) 0 0 0 0 [] [] [] (.slice none 0 0) (.slice none 0 0) w6 (by decide) .nil (by decide) .none .none (fun z h => (List.not_mem_nil h).elim))
                clear hn4 hn5 b6
                go_wp2_with fail
                (with_reducible refine (hcall.out).mono ?_); rintro e w7 ⟨rfl, b7⟩
                have E7 := Lib.hid (E6.out.below b7)
                have B7 := Lib.hid (B6.out.trans (b7.mono B6.out.size))
                clear b7
                go_wp2_with fail
                (with_reducible refine (awake08_any _ E7.out).mono ?_); rintro e w8 ⟨rfl, b8⟩
                have B8 := Lib.hid (B7.out.trans (b8.mono B7.out.size))
                clear b8
                go_wp2_with fail
                go_ret
                exact ⟨rfl, B8.out⟩
            | ok t j =>
              cases ho2 : parseO acc progR with
              | none => exact absurd ho2 (parseO_nn acc _ fun T h => progR_nn h)
              | err q y => rw [ho, ho2] at pl3; exact pl3.elim
              | ok t2 j2 =>
                rw [ho, ho2] at pl3
                replace hP := hP.out
                replace hP2 := hP2.out
                rw [ho] at hP hS
                rw [ho2] at hP2
                obtain ⟨-, htw⟩ := pl3
                clear ho ho2 hS2
                replace hP := Lib.hid hP
                replace hP2 := Lib.hid hP2
                cases htw with
                | @mk kd tx n a1 a2 kids kids2 hpp htl =>
                cases (show Small _ from hS) with
                | mk hq1 hq2 =>
                replace hq2 := Lib.hid hq2
                clear hS
                go_wp2_with fail
                (with_reducible refine (hP.out _ E3.out).mono ?_); rintro e w4 ⟨b4, v, rfl, kv, rfl, hk⟩
                simp only [Syn.kind, Syn.text, Syn.num, Syn.pos, Syn.kids] at hk ⊢
                obtain ⟨p, m, c, rfl⟩ := hk.shape
                have E4 := Lib.hid (E3.out.below b4)
                have B4 := Lib.hid (B3.out.trans (b4.mono B3.out.size))
                clear b4
                replace hk := Lib.hid hk
                go_upto_region 15 with (fail)
                have bA : Below w4.heap.size w4 (w4.alloc (.cells #[.int .i64 kd, .string ⟨List.toArray tx⟩, .int .i64 n, .int .i64 a1, .slice p m c] 26)) := (Below.refl _ _).alloc (Nat.le_refl _) _
                have hn4 := heap_alloc_new w4 (.cells #[.int .i64 kd, .string ⟨List.toArray tx⟩, .int .i64 n, .int .i64 a1, .slice p m c] 26)
                have E4m := Lib.hid (E4.out.below bA)
                have B4m := Lib.hid (B4.out.trans (bA.mono B4.out.size))
                replace hk := Lib.hid (kids_below hk.out bA)
                generalize World.alloc w4 _ = w4m at hn4 E4m B4m hk ⊢
                generalize w4.heap.size = N4 at hn4 hk ⊢
                replace hn4 := Lib.hid hn4
                clear bA
                go_wp2_with fail
                (with_reducible refine (hP2.out _ E4m.out).mono ?_); rintro e w5 ⟨b5, v, rfl, kv, rfl, hk'⟩
                simp only [Syn.kind, Syn.text, Syn.num, Syn.pos, Syn.kids] at hk' ⊢
                obtain ⟨p', m', c', rfl⟩ := hk'.shape
                have E5 := Lib.hid (E4m.out.below b5)
                have B5 := Lib.hid (B4m.out.trans (b5.mono B4m.out.size))
                replace hn4 := Lib.hid ((b5.block _ (Array.getElem?_eq_some_iff.1 hn4.out).1).trans hn4.out)
                replace hk := Lib.hid (kids_below hk.out b5)
                clear b5
                replace hk' := Lib.hid hk'
                go_upto_region 16 with (fail)
                have bA : Below w5.heap.size w5 (w5.alloc (.cells #[.int .i64 kd, .string ⟨List.toArray tx⟩, .int .i64 n, .int .i64 a2, .slice p' m' c'] 26)) := (Below.refl _ _).alloc (Nat.le_refl _) _
                have hn5 := heap_alloc_new w5 (.cells #[.int .i64 kd, .string ⟨List.toArray tx⟩, .int .i64 n, .int .i64 a2, .slice p' m' c'] 26)
                have E5m := Lib.hid (E5.out.below bA)
                have B5m := Lib.hid (B5.out.trans (bA.mono B5.out.size))
                replace hn4 := Lib.hid ((bA.block _ (Array.getElem?_eq_some_iff.1 hn4.out).1).trans hn4.out)
                replace hk := Lib.hid (kids_below hk.out bA)
                replace hk' := Lib.hid (kids_below hk'.out bA)
                generalize World.alloc w5 _ = w5m at hn4 hn5 E5m B5m hk hk' ⊢
                generalize w5.heap.size = N5 at hn5 hk' ⊢
                replace hn5 := Lib.hid hn5
                clear bA
                go_wp2_with fail
                (with_reducible refine (hR.out _).mono ?_); rintro e w6 ⟨b6, v6, rfl, -⟩
                have E6 := Lib.hid (E5m.out.below b6)
                have B6 := Lib.hid (B5m.out.trans (b6.mono B5m.out.size))
                obtain ⟨⟨x0, x1, x2, x3, x4⟩, -⟩ := own5 ((b6.block _ (Array.getElem?_eq_some_iff.1 hn4.out).1).trans hn4.out)
                obtain ⟨⟨y0, y1, y2, y3, y4⟩, -⟩ := own5 ((b6.block _ (Array.getElem?_eq_some_iff.1 hn5.out).1).trans hn5.out)
                have hcall := Lib.hid (same08_any (SizeOf.sizeOf kids + 1) _ _ kd n a1 a2 tx kids kids2 (.slice p m c) (.slice p' m' c') w6 (by omega) htl hq1 (kids_below hk.out b6) (kids_below hk'.out b6) hq2.out)
                clear hn4 hn5 b6 hk hk'
                go_wp2_with fail
                (with_reducible refine (hcall.out).mono ?_); rintro e w7 ⟨rfl, b7⟩
                have E7 := Lib.hid (E6.out.below b7)
                have B7 := Lib.hid (B6.out.trans (b7.mono B6.out.size))
                clear b7
                go_wp2_with fail
                (with_reducible refine (awake08_any _ E7.out).mono ?_); rintro e w8 ⟨rfl, b8⟩
                have B8 := Lib.hid (B7.out.trans (b8.mono B7.out.size))
                clear b8
                go_wp2_with fail
                go_ret
                exact ⟨rfl, B8.out⟩
      · skip
        go_enter Tryz.func7, Tryz.ntmps7
        go_wp2_with fail
        (with_reducible refine (hsm.out).mono ?_); rintro e w1 ⟨rfl, rfl⟩
        go_wp2_with fail
        (with_reducible refine (hSc.out _ he.out).mono ?_); rintro e w2 ⟨b2, v, rfl, o2⟩
        obtain ⟨g1, c1, rfl, l1, m1⟩ := o2.form hTl
        have t1 := tokAt_owns o2
        have E2 := Lib.hid (he.out.below b2)
        have B2 := Lib.hid b2
        clear b2 o2
        replace t1 := Lib.hid t1
        go_upto_region 8 with (fail)
        have bA : Below w2.heap.size w2 (w2.alloc (.cells #[.string ⟨#[32]⟩, .string ⟨#[10]⟩, .string ⟨#[9, 35, 32, 40, 10]⟩] 9)) := (Below.refl _ _).alloc (Nat.le_refl _) _
        replace E2 := Lib.hid (E2.out.below bA)
        replace B2 := Lib.hid (B2.out.trans (bA.mono B2.out.size))
        replace t1 := Lib.hid (tokAt_below t1.out bA)
        clear bA
        generalize World.alloc w2 _ = w3 at E2 B2 t1 ⊢
        change (([] : List UInt8) ++ [9, 35, 32, 40, 10] ++ _).length ≤ _ at pl1
        have hbl : ([9, 35, 32, 40, 10] : List UInt8).length ≤ 5 := by decide
        rw [show btw 2 = [9, 35, 32, 40, 10] from rfl] at pl1 pl3 hU
        rw [List.nil_append] at pl1
        generalize ([9, 35, 32, 40, 10] : List UInt8) = bt at *
        replace pl3 := Lib.hid pl3
        replace pl1 := Lib.hid pl1
        replace hU := Lib.hid hU
        go_wp2_with fail
        go_loopw [9, 47] (fun o i wr => (∃ (k : Nat) (acc : List UInt8), k ≤ T.length ∧ i = .int .i64 k ∧ o = .string ⟨acc.toArray⟩ ∧ Hid (acc = bt ++ (T.take k).flatMap (spell bt))) ∧ Hid (Below w3.heap.size w3 wr)) (fun _ i _ => T.length - (intOf i).toNat)
        case atStart => exact ⟨⟨0, bt, by omega, rfl, rfl, show _ = _ by simp⟩, Lib.hid (Below.refl _ _)⟩
        case round =>
          obtain ⟨⟨k, acc, hk, rfl, rfl, hacc⟩, hbw⟩ := hrel
          by_cases hlt : k < T.length
          · obtain ⟨d0, d1, d2⟩ := (tokAt_below t1.out hbw.out).2 k hlt
            have gl1 := (tokAt_below t1.out hbw.out).1
            have hstep : Hid (acc ++ spell bt T[k] = bt ++ (T.take (k + 1)).flatMap (spell bt)) := show _ = _ by
              rw [hacc.out, List.take_succ_eq_append_getElem hlt, List.flatMap_append, List.append_assoc]
              simp
            have hal : (acc ++ spell bt T[k]).length ≤ 8000 := by
              rw [hstep.out]
              have h1 := pl1.out
              have h2 : T.flatMap (spell bt) = (T.take (k + 1)).flatMap (spell bt) ++ (T.drop (k + 1)).flatMap (spell bt) := by rw [← List.flatMap_append, List.take_append_drop]
              rw [h2] at h1
              simp only [List.length_append] at h1 ⊢
              omega
            generalize T[k] = t at *
            obtain ⟨kd, tx, ps⟩ := t
            simp only at d0 d1 d2
            have hbA : Below wr.heap.size wr (wr.alloc (.cells #[.int .i64 kd, .string ⟨List.toArray tx⟩, .int .i64 ps] 38)) := (Below.refl _ _).alloc (Nat.le_refl _) _
            have hn := heap_alloc_new wr (.cells #[.int .i64 kd, .string ⟨List.toArray tx⟩, .int .i64 ps] 38)
            by_cases h3 : kd = 3
            · subst h3
              have hst : Hid (acc = bt ++ (T.take (k + 1)).flatMap (spell bt)) := show _ = _ by
                rw [← hstep.out]; simp [spell]
              clear hstep hal hacc
              go_wp2_with fail
              go_roundw
              case rel => exact ⟨⟨k + 1, acc, by omega, by go_num, rfl, hst.out⟩, Lib.hid (hbw.out.trans (hbA.mono hbw.out.size))⟩
              case measure => simp [intOf]; omega
            · have hst : Hid (acc ++ (tx ++ bt) = bt ++ (T.take (k + 1)).flatMap (spell bt)) := show _ = _ by
                rw [← hstep.out]; simp [spell, h3]
              have hk3 : (kd != 3) = true := by rw [bne_iff_ne]; exact h3
              have hal2 : acc.length + tx.length ≤ 8000 := by
                have := hal
                simp only [spell, h3, if_false, List.length_append] at this
                omega
              clear hstep hal h3 hacc
              go_wp2_with fail
              go_roundw
              case rel => exact ⟨⟨k + 1, _, by omega, by go_num, rfl, hst⟩, Lib.hid (hbw.out.trans (hbA.mono hbw.out.size))⟩
              case measure => simp [intOf]; omega
          · have hac : acc = bt ++ T.flatMap (spell bt) := by rw [hacc.out, List.take_of_length_le (by omega)]
            replace pl3 := pl3.out
            replace hU := hU.out
            replace pl1 := pl1.out
            rw [← hac] at pl1 pl3 hU
            clear hacc hac
            have hP2 := Lib.hid (fun W h => fullParse_any acc W (by omega) h)
            have hR := refScan_any acc
            rw [hU] at hR
            replace hR := Lib.hid (fun W => hR W (by omega))
            have hS2 := parseO_sm acc progR (by omega) (fun T hT => program_sm hT 0 0)
            have E3 := Lib.hid (E2.out.below hbw.out)
            have B3 := Lib.hid (B2.out.trans (hbw.out.mono B2.out.size))
            clear hU pl1 t1 E2 B2 hbw
            cases ho : parseO l progR with
            | none => exact absurd ho (parseO_nn l _ fun T h => progR_nn h)
            | err p x =>
              cases ho2 : parseO acc progR with
              | none => exact absurd ho2 (parseO_nn acc _ fun T h => progR_nn h)
              | ok t j => rw [ho, ho2] at pl3; exact pl3.elim
              | err q y =>
                rw [ho, ho2] at pl3
                obtain rfl : x = y := pl3
                have q1 : ((x : Int) == (x : Int)) = true := by simp
                replace hP := hP.out
                replace hP2 := hP2.out
                rw [ho] at hP
                rw [ho2] at hP2
                replace hP := Lib.hid hP
                replace hP2 := Lib.hid hP2
                clear ho ho2 hS hS2
                go_wp2_with fail
                (with_reducible refine (hP.out _ E3.out).mono ?_); rintro e w4 ⟨b4, h4⟩
                subst h4
                have E4 := Lib.hid (E3.out.below b4)
                have B4 := Lib.hid (B3.out.trans (b4.mono B3.out.size))
                clear b4
                go_upto_region 15 with (fail)
                have bA : Below w4.heap.size w4 (w4.alloc (.cells #[.int .i64 0, .string ⟨List.toArray []⟩, .int .i64 0, .int .i64 0, .slice none 0 0] 26)) := (Below.refl _ _).alloc (Nat.le_refl _) _
                have hn4 := heap_alloc_new w4 (.cells #[.int .i64 0, .string ⟨List.toArray []⟩, .int .i64 0, .int .i64 0, .slice none 0 0] 26)
                have E4m := Lib.hid (E4.out.below bA)
                have B4m := Lib.hid (B4.out.trans (bA.mono B4.out.size))
                generalize World.alloc w4 _ = w4m at hn4 E4m B4m ⊢
                generalize w4.heap.size = N4 at hn4 ⊢
                replace hn4 := Lib.hid hn4
                clear bA
                go_wp2_with fail
                (with_reducible refine (hP2.out _ E4m.out).mono ?_); rintro e w5 ⟨b5, h5⟩
                subst h5
                have E5 := Lib.hid (E4m.out.below b5)
                have B5 := Lib.hid (B4m.out.trans (b5.mono B4m.out.size))
                replace hn4 := Lib.hid ((b5.block _ (Array.getElem?_eq_some_iff.1 hn4.out).1).trans hn4.out)
                clear b5
                go_upto_region 16 with (fail)
                have bA : Below w5.heap.size w5 (w5.alloc (.cells #[.int .i64 0, .string ⟨List.toArray []⟩, .int .i64 0, .int .i64 0, .slice none 0 0] 26)) := (Below.refl _ _).alloc (Nat.le_refl _) _
                have hn5 := heap_alloc_new w5 (.cells #[.int .i64 0, .string ⟨List.toArray []⟩, .int .i64 0, .int .i64 0, .slice none 0 0] 26)
                have E5m := Lib.hid (E5.out.below bA)
                have B5m := Lib.hid (B5.out.trans (bA.mono B5.out.size))
                replace hn4 := Lib.hid ((bA.block _ (Array.getElem?_eq_some_iff.1 hn4.out).1).trans hn4.out)
                generalize World.alloc w5 _ = w5m at hn4 hn5 E5m B5m ⊢
                generalize w5.heap.size = N5 at hn5 ⊢
                replace hn5 := Lib.hid hn5
                clear bA
                go_wp2_with fail
                (with_reducible refine (hR.out _).mono ?_); rintro e w6 ⟨b6, v6, rfl, -⟩
                have E6 := Lib.hid (E5m.out.below b6)
                have B6 := Lib.hid (B5m.out.trans (b6.mono B5m.out.size))
                obtain ⟨⟨x0, x1, x2, x3, x4⟩, -⟩ := own5 ((b6.block _ (Array.getElem?_eq_some_iff.1 hn4.out).1).trans hn4.out)
                obtain ⟨⟨y0, y1, y2, y3, y4⟩, -⟩ := own5 ((b6.block _ (Array.getElem?_eq_some_iff.1 hn5.out).1).trans hn5.out)
                have hcall := Lib.hid (same08_any 100 (fun _ => True) (fun _ => True) 0 0 0 0 [] [] [] (.slice none 0 0) (.slice none 0 0) w6 (by decide) .nil (by decide) .none .none (fun z h => (List.not_mem_nil h).elim))
                clear hn4 hn5 b6
                go_wp2_with fail
                (with_reducible refine (hcall.out).mono ?_); rintro e w7 ⟨rfl, b7⟩
                have E7 := Lib.hid (E6.out.below b7)
                have B7 := Lib.hid (B6.out.trans (b7.mono B6.out.size))
                clear b7
                go_wp2_with fail
                (with_reducible refine (awake08_any _ E7.out).mono ?_); rintro e w8 ⟨rfl, b8⟩
                have B8 := Lib.hid (B7.out.trans (b8.mono B7.out.size))
                clear b8
                go_wp2_with fail
                go_ret
                exact ⟨rfl, B8.out⟩
            | ok t j =>
              cases ho2 : parseO acc progR with
              | none => exact absurd ho2 (parseO_nn acc _ fun T h => progR_nn h)
              | err q y => rw [ho, ho2] at pl3; exact pl3.elim
              | ok t2 j2 =>
                rw [ho, ho2] at pl3
                replace hP := hP.out
                replace hP2 := hP2.out
                rw [ho] at hP hS
                rw [ho2] at hP2
                obtain ⟨-, htw⟩ := pl3
                clear ho ho2 hS2
                replace hP := Lib.hid hP
                replace hP2 := Lib.hid hP2
                cases htw with
                | @mk kd tx n a1 a2 kids kids2 hpp htl =>
                cases (show Small _ from hS) with
                | mk hq1 hq2 =>
                replace hq2 := Lib.hid hq2
                clear hS
                go_wp2_with fail
                (with_reducible refine (hP.out _ E3.out).mono ?_); rintro e w4 ⟨b4, v, rfl, kv, rfl, hk⟩
                simp only [Syn.kind, Syn.text, Syn.num, Syn.pos, Syn.kids] at hk ⊢
                obtain ⟨p, m, c, rfl⟩ := hk.shape
                have E4 := Lib.hid (E3.out.below b4)
                have B4 := Lib.hid (B3.out.trans (b4.mono B3.out.size))
                clear b4
                replace hk := Lib.hid hk
                go_upto_region 15 with (fail)
                have bA : Below w4.heap.size w4 (w4.alloc (.cells #[.int .i64 kd, .string ⟨List.toArray tx⟩, .int .i64 n, .int .i64 a1, .slice p m c] 26)) := (Below.refl _ _).alloc (Nat.le_refl _) _
                have hn4 := heap_alloc_new w4 (.cells #[.int .i64 kd, .string ⟨List.toArray tx⟩, .int .i64 n, .int .i64 a1, .slice p m c] 26)
                have E4m := Lib.hid (E4.out.below bA)
                have B4m := Lib.hid (B4.out.trans (bA.mono B4.out.size))
                replace hk := Lib.hid (kids_below hk.out bA)
                generalize World.alloc w4 _ = w4m at hn4 E4m B4m hk ⊢
                generalize w4.heap.size = N4 at hn4 hk ⊢
                replace hn4 := Lib.hid hn4
                clear bA
                go_wp2_with fail
                (with_reducible refine (hP2.out _ E4m.out).mono ?_); rintro e w5 ⟨b5, v, rfl, kv, rfl, hk'⟩
                simp only [Syn.kind, Syn.text, Syn.num, Syn.pos, Syn.kids] at hk' ⊢
                obtain ⟨p', m', c', rfl⟩ := hk'.shape
                have E5 := Lib.hid (E4m.out.below b5)
                have B5 := Lib.hid (B4m.out.trans (b5.mono B4m.out.size))
                replace hn4 := Lib.hid ((b5.block _ (Array.getElem?_eq_some_iff.1 hn4.out).1).trans hn4.out)
                replace hk := Lib.hid (kids_below hk.out b5)
                clear b5
                replace hk' := Lib.hid hk'
                go_upto_region 16 with (fail)
                have bA : Below w5.heap.size w5 (w5.alloc (.cells #[.int .i64 kd, .string ⟨List.toArray tx⟩, .int .i64 n, .int .i64 a2, .slice p' m' c'] 26)) := (Below.refl _ _).alloc (Nat.le_refl _) _
                have hn5 := heap_alloc_new w5 (.cells #[.int .i64 kd, .string ⟨List.toArray tx⟩, .int .i64 n, .int .i64 a2, .slice p' m' c'] 26)
                have E5m := Lib.hid (E5.out.below bA)
                have B5m := Lib.hid (B5.out.trans (bA.mono B5.out.size))
                replace hn4 := Lib.hid ((bA.block _ (Array.getElem?_eq_some_iff.1 hn4.out).1).trans hn4.out)
                replace hk := Lib.hid (kids_below hk.out bA)
                replace hk' := Lib.hid (kids_below hk'.out bA)
                generalize World.alloc w5 _ = w5m at hn4 hn5 E5m B5m hk hk' ⊢
                generalize w5.heap.size = N5 at hn5 hk' ⊢
                replace hn5 := Lib.hid hn5
                clear bA
                go_wp2_with fail
                (with_reducible refine (hR.out _).mono ?_); rintro e w6 ⟨b6, v6, rfl, -⟩
                have E6 := Lib.hid (E5m.out.below b6)
                have B6 := Lib.hid (B5m.out.trans (b6.mono B5m.out.size))
                obtain ⟨⟨x0, x1, x2, x3, x4⟩, -⟩ := own5 ((b6.block _ (Array.getElem?_eq_some_iff.1 hn4.out).1).trans hn4.out)
                obtain ⟨⟨y0, y1, y2, y3, y4⟩, -⟩ := own5 ((b6.block _ (Array.getElem?_eq_some_iff.1 hn5.out).1).trans hn5.out)
                have hcall := Lib.hid (same08_any (SizeOf.sizeOf kids + 1) _ _ kd n a1 a2 tx kids kids2 (.slice p m c) (.slice p' m' c') w6 (by omega) htl hq1 (kids_below hk.out b6) (kids_below hk'.out b6) hq2.out)
                clear hn4 hn5 b6 hk hk'
                go_wp2_with fail
                (with_reducible refine (hcall.out).mono ?_); rintro e w7 ⟨rfl, b7⟩
                have E7 := Lib.hid (E6.out.below b7)
                have B7 := Lib.hid (B6.out.trans (b7.mono B6.out.size))
                clear b7
                go_wp2_with fail
                (with_reducible refine (awake08_any _ E7.out).mono ?_); rintro e w8 ⟨rfl, b8⟩
                have B8 := Lib.hid (B7.out.trans (b8.mono B7.out.size))
                clear b8
                go_wp2_with fail
                go_ret
                exact ⟨rfl, B8.out⟩
  · rw [decide_eq_false hb] at hsm
    replace he := Lib.hid he
    clear hb hs ha
    go_enter Tryz.func7, Tryz.ntmps7
    go_wp2_with fail
    (with_reducible refine (hsm.out).mono ?_); rintro e w1 ⟨rfl, rfl⟩
    go_wp2_with fail
    (with_reducible refine (awake08_any _ he.out).mono ?_); rintro e w2 ⟨rfl, b2⟩
    go_wp2_with fail
    go_ret
    exact ⟨rfl, b2⟩
end Go.Proofs.YtekccolabhfopaaGreatDoor
end
