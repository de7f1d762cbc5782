/- Walks: Text, apart, Join of the reference. -/
import Derived.Test.YtpgedklpnnhjlaaGreatDoorRefC
import Derived.Test.YtpgedklpnnhjlaaGreatDoorSame
import Derived.Test.YtpgedklpnnhjlaaGreatDoorPlainA
import Derived.Test.YtpgedklpnnhjlaaGreatDoorLexG
import Derived.Deep.Cut
set_option maxHeartbeats 2000000
set_option maxRecDepth 100000
namespace Go.Proofs.YtpgedklpnnhjlaaGreatDoor
open Go.RowKit
theorem cell_drawn {w wr : World} (h : ∃ n, wr = w.drewN n) (p : Addr) : wr.cell? p = w.cell? p := by
  obtain ⟨n, rfl⟩ := h; rfl
theorem drawn_more {w wr : World} (h : ∃ n, wr = w.drewN n) (m : Nat) : ∃ n, wr.drewN m = w.drewN n := by
  obtain ⟨n, rfl⟩ := h; exact ⟨n + m, by rw [World.drewN_drewN]⟩
theorem refText_any (kind : Int) (s : List UInt8) (w : World) (hs : s.length ≤ 1000000) :
    Calls Tryz.prog 47 #[.int .i64 kind, .string ⟨s.toArray⟩] w fun e w' => e = .returned (.bool (formedB kind s)) ∧ ∃ n, w' = w.drewN n := by
  rw [← refText_eq]
  by_cases h3 : kind = 3
  · subst h3
    cases s with
    | nil =>
      go_enter Tryz.func47, Tryz.ntmps47
      go_wp2_with fail
      go_ret
      exact ⟨rfl, 0, rfl⟩
    | cons c r =>
      go_enter Tryz.func47, Tryz.ntmps47
      go_wp2_with fail
      go_ret
      exact ⟨rfl, 0, rfl⟩
  · have hb3 : (kind == 3) = false := by rw [beq_eq_false_iff_ne]; exact h3
    cases s with
    | nil =>
      have hr : Hid (refTextB kind [] = false) := show _ = _ by rw [refTextB, if_neg h3]; rfl
      replace h3 := Lib.hid h3
      go_enter Tryz.func47, Tryz.ntmps47
      go_wp2_with fail
      go_ret
      exact ⟨ret_b hr.out.symm, 0, rfl⟩
    | cons c r =>
      have hN : ∀ W, Calls Tryz.prog 40 #[.string ⟨(c :: r).toArray⟩, .int .i64 0] W fun e w' => e = .returned (nextVal 0 (tok (c :: r))) ∧ ∃ n, w' = W.drewN n := fun W => refNext_any (c :: r) 0 W hs (by simp)
      have hr : refTextB kind (c :: r) = match tok (c :: r) with | .ok (k, n) => decide ((k : Int) = kind) && decide (n = (c :: r).length) | .error _ => false := by
        rw [refTextB, if_neg h3, if_neg (by simp)]; cases tok (c :: r) <;> rfl
      replace h3 := Lib.hid h3
      cases ht : tok (c :: r) with
      | error x =>
        obtain ⟨d, er⟩ := x
        have her : 0 < er := by
          unfold tok at ht; (repeat' split at ht) <;> simp at ht <;> omega
        have hb0 : ((er : Int) == 0) = false := by rw [beq_eq_false_iff_ne]; omega
        rw [ht] at hN hr
        simp only at hr
        replace hN := Lib.hid hN
        replace hr := Lib.hid hr
        clear ht her
        go_enter Tryz.func47, Tryz.ntmps47
        go_wp2_with fail
        (with_reducible refine (hN.out _).mono ?_); rintro e w1 ⟨rfl, nd, rfl⟩
        simp only [nextVal]
        go_wp2_with fail
        go_ret
        exact ⟨ret_b hr.out.symm, nd, rfl⟩
      | ok x =>
        obtain ⟨k, n⟩ := x
        rw [ht] at hN hr
        simp only at hr
        have hp := (tok_pos ht).2
        simp only [List.length_cons] at hp hr hs
        replace hN := Lib.hid hN
        clear ht
        by_cases hk : (k : Int) = kind
        · have hkb : ((k : Int) == kind) = true := by rw [beq_iff_eq]; exact hk
          rw [decide_eq_true hk, Bool.true_and] at hr
          replace hk := Lib.hid hk
          by_cases hl : n = r.length + 1
          · have hlb : ((n : Int) == (r.length : Int) + 1) = true := by rw [beq_iff_eq]; omega
            rw [decide_eq_true hl] at hr
            replace hr := Lib.hid hr
            clear hl
            go_enter Tryz.func47, Tryz.ntmps47
            go_wp2_with fail
            (with_reducible refine (hN.out _).mono ?_); rintro e w1 ⟨rfl, nd, rfl⟩
            simp only [nextVal]
            go_wp2_with fail
            go_ret
            exact ⟨ret_b hr.out.symm, nd, rfl⟩
          · have hlb : ((n : Int) == (r.length : Int) + 1) = false := by rw [beq_eq_false_iff_ne]; omega
            rw [decide_eq_false hl] at hr
            replace hr := Lib.hid hr
            clear hl
            go_enter Tryz.func47, Tryz.ntmps47
            go_wp2_with fail
            (with_reducible refine (hN.out _).mono ?_); rintro e w1 ⟨rfl, nd, rfl⟩
            simp only [nextVal]
            go_wp2_with fail
            go_ret
            exact ⟨ret_b hr.out.symm, nd, rfl⟩
        · have hkb : ((k : Int) == kind) = false := by rw [beq_eq_false_iff_ne]; exact hk
          rw [decide_eq_false hk, Bool.false_and] at hr
          replace hk := Lib.hid hk
          replace hr := Lib.hid hr
          go_enter Tryz.func47, Tryz.ntmps47
          go_wp2_with fail
          (with_reducible refine (hN.out _).mono ?_); rintro e w1 ⟨rfl, nd, rfl⟩
          simp only [nextVal]
          go_wp2_with fail
          go_ret
          exact ⟨ret_b hr.out.symm, nd, rfl⟩
theorem apart_any (a b : List UInt8) (w : World) (ha : a.length ≤ 1000000) (hb : b.length ≤ 1000000) :
    Calls Tryz.prog 48 #[.string ⟨a.toArray⟩, .string ⟨b.toArray⟩] w fun e w' => e = .returned (.bool (apartB a b)) ∧ w' = w := by
  have hA : ∀ W, Calls Tryz.prog 72 #[.string ⟨a.toArray⟩, .int .i64 0] W fun e w' => e = .returned (.int .i64 (runLen isWordy a)) ∧ w' = W := fun W => refWord_any a 0 W (by omega) (by omega)
  have hB : ∀ W, Calls Tryz.prog 72 #[.string ⟨b.toArray⟩, .int .i64 0] W fun e w' => e = .returned (.int .i64 (runLen isWordy b)) ∧ w' = W := fun W => refWord_any b 0 W (by omega) (by omega)
  cases a with
  | nil =>
    clear hA hB
    go_enter Tryz.func48, Tryz.ntmps48
    go_wp2_with fail
    go_ret
    exact ⟨rfl, rfl⟩
  | cons c r =>
    cases b with
    | nil =>
      clear hA hB
      go_enter Tryz.func48, Tryz.ntmps48
      go_wp2_with fail
      go_ret
      exact ⟨rfl, rfl⟩
    | cons d q =>
      have hr : apartB (c :: r) (d :: q) = ((decide ((c :: r) = [60]) && decide (d = 61)) || (decide (0 < runLen isWordy (c :: r)) && decide (0 < runLen isWordy (d :: q)))) := by
        rw [apartB, if_neg (by simp)]; simp
      have hla := runLen_le isWordy (c :: r)
      have hlb := runLen_le isWordy (d :: q)
      have key : ∀ x y z t : Bool, decide ((c :: r) = [60]) = x → decide (d = 61) = y → decide (0 < runLen isWordy (c :: r)) = z → decide (0 < runLen isWordy (d :: q)) = t → apartB (c :: r) (d :: q) = ((x && y) || (z && t)) := by
        rintro x y z t rfl rfl rfl rfl; exact hr
      have e1 : ((c :: r) == [60]) = decide ((c :: r) = [60]) := by rw [Bool.eq_iff_iff]; simp
      have e2 : ((d.toNat : Int) == 61) = decide (d = 61) := by
        rw [Bool.eq_iff_iff]; simp only [beq_iff_eq, decide_eq_true_eq]
        constructor
        · intro h; exact UInt8.toNat_inj.1 (by show d.toNat = 61; omega)
        · intro h; rw [h]; rfl
      replace key := Lib.hid key
      clear hr
      simp only [List.length_cons] at hla hlb ha hb
      generalize hx : decide ((c :: r) = [60]) = x at *
      generalize hy : decide (d = 61) = y at *
      generalize hz : decide (0 < runLen isWordy (c :: r)) = z at *
      generalize ht : decide (0 < runLen isWordy (d :: q)) = t at *
      have hres := Lib.hid (key.out x y z t rfl rfl rfl rfl)
      generalize hm : runLen isWordy (c :: r) = m at *
      generalize hn : runLen isWordy (d :: q) = n at *
      replace hx := Lib.hid hx
      replace hy := Lib.hid hy
      replace hm := Lib.hid hm
      replace hn := Lib.hid hn
      replace hA := Lib.hid hA
      replace hB := Lib.hid hB
      clear key
      have hz1 : z = true → 0 < m := by intro h; rw [h, decide_eq_true_eq] at hz; omega
      have hz0 : z = false → m ≤ 0 := by intro h; rw [h, decide_eq_false_iff_not] at hz; omega
      have ht1 : t = true → 0 < n := by intro h; rw [h, decide_eq_true_eq] at ht; omega
      have ht0 : t = false → n ≤ 0 := by intro h; rw [h, decide_eq_false_iff_not] at ht; omega
      clear hz ht
      cases x
      · clear e2 hy
        cases z
        · have hm0 := hz0 rfl
          clear hz0 hz1 ht0 ht1
          go_enter Tryz.func48, Tryz.ntmps48
          go_wp2_with fail
          (with_reducible refine (hA.out _).mono ?_); rintro e w1 ⟨rfl, rfl⟩
          go_wp2_with fail
          go_ret
          exact ⟨ret_b (by rw [hres.out]; first | (simp; done) | (simp; omega)), rfl⟩
        · have hm1 := hz1 rfl
          cases t
          · have hn0 := ht0 rfl
            clear hz0 hz1 ht0 ht1
            go_enter Tryz.func48, Tryz.ntmps48
            go_wp2_with fail
            (with_reducible refine (hA.out _).mono ?_); rintro e w1 ⟨rfl, rfl⟩
            go_wp2_with fail
            (with_reducible refine (hB.out _).mono ?_); rintro e w1 ⟨rfl, rfl⟩
            go_wp2_with fail
            go_ret
            exact ⟨ret_b (by rw [hres.out]; first | (simp; done) | (simp; omega)), rfl⟩
          · have hn1 := ht1 rfl
            clear hz0 hz1 ht0 ht1
            go_enter Tryz.func48, Tryz.ntmps48
            go_wp2_with fail
            (with_reducible refine (hA.out _).mono ?_); rintro e w1 ⟨rfl, rfl⟩
            go_wp2_with fail
            (with_reducible refine (hB.out _).mono ?_); rintro e w1 ⟨rfl, rfl⟩
            go_wp2_with fail
            go_ret
            exact ⟨ret_b (by rw [hres.out]; first | (simp; done) | (simp; omega)), rfl⟩
      · cases y
        · cases z
          · have hm0 := hz0 rfl
            clear hz0 hz1 ht0 ht1
            go_enter Tryz.func48, Tryz.ntmps48
            go_wp2_with fail
            (with_reducible refine (hA.out _).mono ?_); rintro e w1 ⟨rfl, rfl⟩
            go_wp2_with fail
            go_ret
            exact ⟨ret_b (by rw [hres.out]; first | (simp; done) | (simp; omega)), rfl⟩
          · have hm1 := hz1 rfl
            cases t
            · have hn0 := ht0 rfl
              clear hz0 hz1 ht0 ht1
              go_enter Tryz.func48, Tryz.ntmps48
              go_wp2_with fail
              (with_reducible refine (hA.out _).mono ?_); rintro e w1 ⟨rfl, rfl⟩
              go_wp2_with fail
              (with_reducible refine (hB.out _).mono ?_); rintro e w1 ⟨rfl, rfl⟩
              go_wp2_with fail
              go_ret
              exact ⟨ret_b (by rw [hres.out]; first | (simp; done) | (simp; omega)), rfl⟩
            · have hn1 := ht1 rfl
              clear hz0 hz1 ht0 ht1
              go_enter Tryz.func48, Tryz.ntmps48
              go_wp2_with fail
              (with_reducible refine (hA.out _).mono ?_); rintro e w1 ⟨rfl, rfl⟩
              go_wp2_with fail
              (with_reducible refine (hB.out _).mono ?_); rintro e w1 ⟨rfl, rfl⟩
              go_wp2_with fail
              go_ret
              exact ⟨ret_b (by rw [hres.out]; first | (simp; done) | (simp; omega)), rfl⟩
        · clear hz0 hz1 ht0 ht1
          go_enter Tryz.func48, Tryz.ntmps48
          go_wp2_with fail
          go_ret
          exact ⟨ret_b (by rw [hres.out]; first | (simp; done) | (simp; omega)), rfl⟩
theorem refJoin_first (ts : List Tok) (b o c : Nat) (w : World) (hn : ts.length ≤ 60) (ht : ∀ t ∈ ts, t.text.length ≤ 60)
    (hlt : b < w.heap.size) (hc : ∀ k (h : k < ts.length), w.cell? ⟨b, o + k * 3, none⟩ = some (.int .i64 ts[k].kind) ∧ w.cell? ⟨b, o + k * 3 + 1, none⟩ = some (.string ⟨ts[k].text.toArray⟩) ∧ w.cell? ⟨b, o + k * 3 + 2, none⟩ = some (.int .i64 ts[k].pos)) :
    Calls Tryz.prog 14 #[.slice (some ⟨b, o, none⟩) ts.length c] w fun e w' => e = .returned (joinVal (join ts)) ∧ ∃ n, w' = w.drewN n := by
  have HC := Lib.hid hc
  have HT := Lib.hid ht
  clear hc ht
  go_enter Tryz.func14, Tryz.ntmps14
  go_wp2_with fail
  go_loopw [4] (fun i wr => ∃ k : Nat, k ≤ ts.length ∧ i = .int .i64 k ∧ Hid (∃ n, wr = w.drewN n) ∧ Hid (joinErrs ts = joinErrs (ts.drop k))) (fun i _ => ts.length - (intOf i).toNat)
  case atStart => exact ⟨0, by omega, rfl, ⟨0, rfl⟩, show _ = _ from rfl⟩
  case round =>
    obtain ⟨k, hk, rfl, hb, hall⟩ := hrel
    by_cases hk1 : k < ts.length
    · have hstep := Lib.hid (joinErrs_step hk1)
      have hstop := Lib.hid (joinErrs_stop hk1)
      obtain ⟨c0, c1, c2⟩ := HC.out k hk1
      have htl := HT.out ts[k] (List.getElem_mem hk1)
      have d0 : wr.cell? ⟨b, o + k * 3, none⟩ = some (.int .i64 ts[k].kind) := (cell_drawn hb.out _).trans c0
      have d1 : wr.cell? ⟨b, o + k * 3 + 1, none⟩ = some (.string ⟨ts[k].text.toArray⟩) := (cell_drawn hb.out _).trans c1
      clear c0 c1 c2
      generalize ts[k] = t at *
      obtain ⟨kd, tx, ps⟩ := t
      simp only at d0 d1 htl
      have hf := Lib.hid (fun W => refText_any kd tx W (by omega))
      by_cases hr : kd < 0 ∨ 3 < kd
      · have he : Hid (join ts = .error 1) := show _ = _ by
          have e1 : errTok (decide (k + 1 = ts.length)) ⟨kd, tx, ps⟩ = 1 := by rw [errTok, if_pos hr]
          have e2 := hstop.out (by rw [e1]; omega)
          rw [e1] at e2
          rw [join, if_neg (by omega), hall.out, e2, if_pos (by omega)]
        rcases hr with hr | hr
        all_goals
          go_wp2_with fail
          go_ret2
          exact ⟨by rw [he.out]; rfl, hb.out⟩
      · have hr1 : 0 ≤ kd := by omega
        have hr2 : kd ≤ 3 := by omega
        cases hfm : formedB kd tx
        · have he : Hid (join ts = .error 3) := show _ = _ by
            have e1 : errTok (decide (k + 1 = ts.length)) ⟨kd, tx, ps⟩ = 3 := by rw [errTok, if_neg hr, if_pos hfm]
            have e2 := hstop.out (by rw [e1]; omega)
            rw [e1] at e2
            rw [join, if_neg (by omega), hall.out, e2, if_pos (by omega)]
          rw [hfm] at hf
          clear hr hfm
          go_wp2_with fail
          go_quiet ((go_at_call 47; exact Calls.quiet_of (hf.out _)))
          go_wp2_with fail
          go_ret2
          exact ⟨by rw [he.out]; rfl, drawn_more hb.out nq⟩
        · rw [hfm] at hf
          by_cases h3 : kd = 3
          · by_cases hl : k + 1 = ts.length
            · have he : Hid (joinErrs (ts.drop k) = joinErrs (ts.drop (k + 1))) := hstep.out (by rw [errTok, if_neg hr, if_neg (by simp [hfm]), if_neg (by simp [hl])])
              subst h3
              replace hl := Lib.hid hl
              have hl2 : ts.length ≤ k + 1 := by rw [hl.out]; exact Nat.le_refl _
              clear hr hfm
              go_wp2_with fail
              go_quiet ((go_at_call 47; exact Calls.quiet_of (hf.out _)))
              go_wp2_with fail
              go_roundw
              case rel => exact ⟨k + 1, by omega, by go_num, drawn_more hb.out nq, show _ = _ by rw [hall.out, he.out]⟩
              case measure => simp [intOf]; omega
            · have he : Hid (join ts = .error 14) := show _ = _ by
                have e1 : errTok (decide (k + 1 = ts.length)) ⟨kd, tx, ps⟩ = 14 := by rw [errTok, if_neg hr, if_neg (by simp [hfm]), if_pos (by simp [hl, h3])]
                have e2 := hstop.out (by rw [e1]; omega)
                rw [e1] at e2
                rw [join, if_neg (by omega), hall.out, e2, if_pos (by omega)]
              subst h3
              clear hr hfm
              go_wp2_with fail
              go_quiet ((go_at_call 47; exact Calls.quiet_of (hf.out _)))
              go_wp2_with fail
              go_ret2
              exact ⟨by rw [he.out]; rfl, drawn_more hb.out nq⟩
          · have he : Hid (joinErrs (ts.drop k) = joinErrs (ts.drop (k + 1))) := hstep.out (by rw [errTok, if_neg hr, if_neg (by simp [hfm]), if_neg (by simp [h3])])
            have hb3 : (kd == 3) = false := by simpa using h3
            clear hr hfm h3
            go_wp2_with fail
            go_quiet ((go_at_call 47; exact Calls.quiet_of (hf.out _)))
            go_wp2_with fail
            go_roundw
            case rel => exact ⟨k + 1, by omega, by go_num, drawn_more hb.out nq, show _ = _ by rw [hall.out, he.out]⟩
            case measure => simp [intOf]; omega
    · have he0 : Hid (joinErrs ts = 0) := show _ = _ by rw [hall.out, List.drop_of_length_le (by omega)]; rfl
      have hfm := Lib.hid (joinErrs_zero he0.out)
      go_wp2_with fail
      clear hall hk1 hk
      obtain ⟨wo, rfl⟩ : ∃ wo : World, wo = wr := ⟨_, rfl⟩
      go_loopw [5, 6] (fun s i wq => ∃ k : Nat, ∃ acc : List UInt8, k ≤ ts.length ∧ i = .int .i64 k ∧ s = .string ⟨acc.toArray⟩ ∧ Hid (∃ n, wq = w.drewN n) ∧ acc.length ≤ k * 61 ∧ Hid (joinGo none ts = acc ++ joinGo (prevTok ts k) (ts.drop k))) (fun _ i _ => ts.length - (intOf i).toNat)
      case atStart => exact ⟨0, [], by omega, rfl, rfl, hb, by simp, show _ = _ from rfl⟩
      case round =>
        obtain ⟨k, acc, hk, rfl, rfl, hbq, hacc, hall⟩ := hrel
        by_cases hk1 : k < ts.length
        · obtain ⟨c0, c1, c2⟩ := HC.out k hk1
          have htl := HT.out ts[k] (List.getElem_mem hk1)
          have htf := Lib.hid (hfm.out ts[k] (List.getElem_mem hk1))
          have hstep := joinGo_step hk1
          have d1 : wr.cell? ⟨b, o + k * 3 + 1, none⟩ = some (.string ⟨ts[k].text.toArray⟩) := (cell_drawn hbq.out _).trans c1
          clear c0 c1 c2
          by_cases hk0 : k = 0
          · have hst2 : Hid (joinGo none ts = (acc ++ ts[k].text) ++ joinGo (prevTok ts (k + 1)) (ts.drop (k + 1))) := show _ = _ by
              rw [hall.out, hstep]
              have : ¬ ∃ p, prevTok ts k = some p ∧ gap p ts[k] = true := by simp [prevTok, hk0]
              rw [if_neg this]; simp
            have hgt : decide ((0 : Int) < (k : Int)) = false := by rw [decide_eq_false_iff_not]; omega
            have hgt2 : decide (0 < k) = false := by rw [decide_eq_false_iff_not]; omega
            clear hstep hall
            generalize ts[k] = t at *
            obtain ⟨kd, tx, ps⟩ := t
            simp only at d1 htl
            replace hk0 := Lib.hid hk0
            go_wp2_with fail
            go_quiet (fail)
            go_wp2_with fail
            go_roundw
            case rel => exact ⟨k + 1, acc ++ tx, by omega, by go_num, rfl, drawn_more hbq.out nq, by simp; omega, hst2.out⟩
            case measure => simp [intOf]; omega
          · have hk2 : k - 1 < ts.length := by omega
            obtain ⟨q0, q1, q2⟩ := HC.out (k - 1) hk2
            have hpl := HT.out ts[k - 1] (List.getElem_mem hk2)
            have hpf := Lib.hid (hfm.out ts[k - 1] (List.getElem_mem hk2))
            have d2 : wr.cell? ⟨b, o + (k - 1) * 3 + 1, none⟩ = some (.string ⟨ts[k - 1].text.toArray⟩) := (cell_drawn hbq.out _).trans q1
            clear q0 q1 q2
            have hprev : prevTok ts k = some ts[k - 1] := by simp [prevTok, hk0, hk2]
            have hap := apart_eq hpf.out.2.2 htf.out.2.2 hpf.out.1 hpf.out.2.1 htf.out.1 htf.out.2.1
            have hst2 : Hid (joinGo none ts = (acc ++ ((if gap ts[k - 1] ts[k] then [32] else []) ++ ts[k].text)) ++ joinGo (prevTok ts (k + 1)) (ts.drop (k + 1))) := show _ = _ by
              rw [hall.out, hstep, hprev]
              simp
            have hgt : decide ((0 : Int) < (k : Int)) = true := by rw [decide_eq_true_eq]; omega
            have hgt2 : decide (0 < k) = true := by rw [decide_eq_true_eq]; omega
            have hkpos : 0 < k := by omega
            clear hstep hall hprev
            generalize gap ts[k - 1] ts[k] = g at *
            generalize ts[k] = t at *
            generalize ts[k - 1] = u at *
            obtain ⟨kd, tx, ps⟩ := t
            obtain ⟨ku, ux, pu⟩ := u
            simp only at d1 d2 htl hpl hap
            have hA := fun W => apart_any ux tx W (by omega) (by omega)
            rw [hap] at hA
            replace hA := Lib.hid hA
            replace hap := Lib.hid hap
            clear hfm htf hpf
            cases g
            · have hst3 : Hid (joinGo none ts = (acc ++ tx) ++ joinGo (prevTok ts (k + 1)) (ts.drop (k + 1))) := show _ = _ by
                have h := hst2.out
                simp only [Bool.false_eq_true, if_false, List.nil_append] at h
                exact h
              clear hst2
              go_wp2_with fail
              go_quiet ((go_at_call 48; exact Calls.quiet_of_same (hA.out _)))
              go_wp2_with fail
              go_roundw
              case rel => exact ⟨k + 1, acc ++ tx, by omega, by go_num, rfl, drawn_more hbq.out nq, by simp; omega, hst3.out⟩
              case measure => simp [intOf]; omega
            · have hst3 : joinGo none ts = (acc ++ 32 :: tx) ++ joinGo (prevTok ts (k + 1)) (ts.drop (k + 1)) := by
                have h := hst2.out
                simp only [if_true] at h
                exact h
              have hql : (acc ++ 32 :: tx).length ≤ k * 61 + 61 := by simp; omega
              replace hst3 := Lib.hid hst3
              clear hst2
              go_wp2_with fail
              go_quiet ((go_at_call 48; exact Calls.quiet_of_same (hA.out _)))
              go_upto_region 19 with (fail)
              generalize acc ++ 32 :: tx = q at *
              go_wp2_with fail
              go_roundw
              case rel => exact ⟨k + 1, q, by omega, by go_num, rfl, drawn_more hbq.out nq, by omega, hst3.out⟩
              case measure => simp [intOf]; omega
        · have hres : Hid (join ts = .ok acc) := show _ = _ by
            have h1 : joinGo none ts = acc := by rw [hall.out, List.drop_of_length_le (by omega)]; simp [joinGo]
            rw [join, if_neg (by omega), he0.out, if_neg (by simp), h1, if_neg (by omega)]
          go_wp2_with fail
          go_ret2
          exact ⟨by rw [hres.out]; rfl, hbq.out⟩
theorem refJoin_any (v : Value) (ts : List Tok) (w : World) (hv : TokSl w v ts) (hn : ts.length ≤ 60) (ht : ∀ t ∈ ts, t.text.length ≤ 60) :
    Calls Tryz.prog 14 #[v] w fun e w' => e = .returned (joinVal (join ts)) ∧ ∃ n, w' = w.drewN n := by
  rcases hv with ⟨rfl, a, c, rfl⟩ | ⟨b, o, c, rfl, hlt, hc⟩
  · go_enter Tryz.func14, Tryz.ntmps14
    go_wp2_with fail
    go_rounds 1
    go_wp2_with fail
    go_rounds 1
    go_ret2
    exact ⟨rfl, 0, rfl⟩
  · exact refJoin_first ts b o c w hn ht hlt hc
end Go.Proofs.YtpgedklpnnhjlaaGreatDoor
