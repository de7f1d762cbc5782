/- Walks: Join of package lexer. -/
import Derived.Test.YtpgedklpnnhjlaaGreatDoorLexF
import Derived.Test.YtpgedklpnnhjlaaGreatDoorSame
import Derived.Test.YtpgedklpnnhjlaaGreatDoorBld
set_option maxHeartbeats 2000000
set_option maxRecDepth 100000
namespace Go.Proofs.YtpgedklpnnhjlaaGreatDoor
open Go.RowKit
def joinVal : Except Nat (List UInt8) → Value
  | .error e => .tuple #[.string ⟨#[]⟩, .int .i64 e]
  | .ok s => .tuple #[.string ⟨s.toArray⟩, .int .i64 0]
theorem bld_fresh (w : World) : IsBld w.heap.size w.heap.size [] (w.alloc (.cells #[.pointer none, .slice none 0 0] 74)) := Lib.fresh_isBuilder 74 5 w
theorem bld_below {w w' : World} {B b : Nat} {l : List UInt8} (h : IsBld B b l w) (hb : Below w.heap.size w w') : IsBld B b l w' := by
  have key : ∀ p, Lib.BuilderAt 74 5 B b p (Lib.byteCells l) w → Lib.BuilderAt 74 5 B b p (Lib.byteCells l) w' := by
    rintro p ⟨hB, v, hh, hown, hne⟩
    have hlt : b < w.heap.size := (Array.getElem?_eq_some_iff.1 hh).1
    exact ⟨hB, v, by rw [hb.block b hlt]; exact hh, owns_below hown hb, hne⟩
  rcases h with h | h
  · exact .inl (key _ h)
  · exact .inr (key _ h)
theorem join_first (ts : List Tok) (b o c : Nat) (w : World) (hn : ts.length ≤ 65536) (ht : ∀ t ∈ ts, t.text.length ≤ 1000000)
    (hlt : b < w.heap.size) (hc : ∀ k (h : k < ts.length), w.cell? ⟨b, o + k * 3, none⟩ = some (.int .i64 ts[k].kind) ∧ w.cell? ⟨b, o + k * 3 + 1, none⟩ = some (.string ⟨ts[k].text.toArray⟩) ∧ w.cell? ⟨b, o + k * 3 + 2, none⟩ = some (.int .i64 ts[k].pos))
    (hg : SignsAt w) (hg0 : 0 < w.heap.size) :
    Calls Tryz.prog 13 #[.slice (some ⟨b, o, none⟩) ts.length c] w fun e w' => e = .returned (joinVal (join ts)) ∧ Below w.heap.size w w' := by
  have HC := Lib.hid hc
  have HT := Lib.hid ht
  have HG := Lib.hid hg
  clear hc ht hg
  go_enter Tryz.func13, Tryz.ntmps13
  go_wp2_with fail
  go_loopw [14] (fun i wr => ∃ k : Nat, k ≤ ts.length ∧ i = .int .i64 k ∧ Below w.heap.size w wr ∧ Hid (joinErrs ts = joinErrs (ts.drop k))) (fun i _ => ts.length - (intOf i).toNat)
  case atStart => exact ⟨0, by omega, rfl, Below.refl _ _, show _ = _ from rfl⟩
  case round =>
    obtain ⟨k, hk, rfl, hb, hall⟩ := hrel
    by_cases hk1 : k < ts.length
    · have hstep := Lib.hid (joinErrs_step hk1)
      have hstop := Lib.hid (joinErrs_stop hk1)
      obtain ⟨c0, c1, c2⟩ := HC.out k hk1
      have htl := HT.out ts[k] (List.getElem_mem hk1)
      have hgw := Lib.hid (fun o => HG.out.below (hb.alloc hb.size o) hg0)
      have hbk : b < wr.heap.size := by have := hb.size; omega
      have d0 : wr.cell? ⟨b, o + k * 3, none⟩ = some (.int .i64 ts[k].kind) := (hb.cell hlt).trans c0
      have d1 : wr.cell? ⟨b, o + k * 3 + 1, none⟩ = some (.string ⟨ts[k].text.toArray⟩) := (hb.cell hlt).trans c1
      have d2 : wr.cell? ⟨b, o + k * 3 + 2, none⟩ = some (.int .i64 ts[k].pos) := (hb.cell hlt).trans c2
      clear c0 c1 c2
      generalize ts[k] = t at *
      obtain ⟨kd, tx, ps⟩ := t
      simp only at d0 d1 d2 htl
      have hf := Lib.hid (fun o => formed_any kd tx (wr.alloc o) htl (hgw.out o))
      by_cases hr : kd < 0 ∨ 3 < kd
      · have he : Hid (join ts = .error 1) := show _ = _ by
          have e1 : errTok (decide (k + 1 = ts.length)) ⟨kd, tx, ps⟩ = 1 := by rw [errTok, if_pos hr]
          have e2 := hstop.out (by rw [e1]; omega)
          rw [e1] at e2
          rw [join, if_neg (by omega), hall.out, e2, if_pos (by omega)]
        rcases hr with hr | hr
        all_goals
          go_wp2_with fail
          go_ret2
          exact ⟨by rw [he.out]; rfl, hb.alloc hb.size _⟩
      · have hr1 : 0 ≤ kd := by omega
        have hr2 : kd ≤ 3 := by omega
        cases hfm : formedB kd tx
        · have he : Hid (join ts = .error 3) := show _ = _ by
            have e1 : errTok (decide (k + 1 = ts.length)) ⟨kd, tx, ps⟩ = 3 := by rw [errTok, if_neg hr, if_pos hfm]
            have e2 := hstop.out (by rw [e1]; omega)
            rw [e1] at e2
            rw [join, if_neg (by omega), hall.out, e2, if_pos (by omega)]
          rw [hfm] at hf
          clear hr hfm
          go_wp2_with fail
          (with_reducible refine (hf.out _).mono ?_); rintro e w2 ⟨rfl, hb2⟩
          obtain ⟨hc, hfz⟩ := bcell hb2
          go_wp2_with fail
          go_ret2
          exact ⟨by rw [he.out]; rfl, (hb.alloc hb.size _).trans (hb2.mono (by have := hb.size; simp; omega))⟩
        · rw [hfm] at hf
          by_cases h3 : kd = 3
          · by_cases hl : k + 1 = ts.length
            · have he : Hid (joinErrs (ts.drop k) = joinErrs (ts.drop (k + 1))) := hstep.out (by rw [errTok, if_neg hr, if_neg (by simp [hfm]), if_neg (by simp [hl])])
              subst h3
              replace hl := Lib.hid hl
              have hl2 : ts.length ≤ k + 1 := by rw [hl.out]; exact Nat.le_refl _
              clear hr hfm
              go_wp2_with fail
              (with_reducible refine (hf.out _).mono ?_); rintro e w2 ⟨rfl, hb2⟩
              obtain ⟨hc, hfz⟩ := bcell hb2
              go_wp2_with fail
              go_roundw
              case rel => exact ⟨k + 1, by omega, by go_num, (hb.alloc hb.size _).trans (hb2.mono (by have := hb.size; simp; omega)), show _ = _ by rw [hall.out, he.out]⟩
              case measure => simp [intOf]; omega
            · have he : Hid (join ts = .error 14) := show _ = _ by
                have e1 : errTok (decide (k + 1 = ts.length)) ⟨kd, tx, ps⟩ = 14 := by rw [errTok, if_neg hr, if_neg (by simp [hfm]), if_pos (by simp [hl, h3])]
                have e2 := hstop.out (by rw [e1]; omega)
                rw [e1] at e2
                rw [join, if_neg (by omega), hall.out, e2, if_pos (by omega)]
              subst h3
              clear hr hfm
              go_wp2_with fail
              (with_reducible refine (hf.out _).mono ?_); rintro e w2 ⟨rfl, hb2⟩
              obtain ⟨hc, hfz⟩ := bcell hb2
              go_wp2_with fail
              go_ret2
              exact ⟨by rw [he.out]; rfl, (hb.alloc hb.size _).trans (hb2.mono (by have := hb.size; simp; omega))⟩
          · have he : Hid (joinErrs (ts.drop k) = joinErrs (ts.drop (k + 1))) := hstep.out (by rw [errTok, if_neg hr, if_neg (by simp [hfm]), if_neg (by simp [h3])])
            have hb3 : (kd == 3) = false := by simpa using h3
            clear hr hfm h3
            go_wp2_with fail
            (with_reducible refine (hf.out _).mono ?_); rintro e w2 ⟨rfl, hb2⟩
            obtain ⟨hc, hfz⟩ := bcell hb2
            go_wp2_with fail
            go_roundw
            case rel => exact ⟨k + 1, by omega, by go_num, (hb.alloc hb.size _).trans (hb2.mono (by have := hb.size; simp; omega)), show _ = _ by rw [hall.out, he.out]⟩
            case measure => simp [intOf]; omega
    · have he0 : Hid (joinErrs ts = 0) := show _ = _ by rw [hall.out, List.drop_of_length_le (by omega)]; rfl
      have HG1 := Lib.hid (HG.out.below hb hg0)
      go_wp2_with fail
      clear hall hk1 hk
      obtain ⟨wo, rfl⟩ : ∃ wo : World, wo = wr := ⟨_, rfl⟩
      go_loopw [49] (fun i wq => ∃ k : Nat, ∃ acc : List UInt8, k ≤ ts.length ∧ i = .int .i64 k ∧ IsBld wo.heap.size wo.heap.size acc wq ∧ Below wo.heap.size wo wq ∧ wo.heap.size < wq.heap.size ∧ acc.length ≤ k * 1000001 ∧ Hid (joinGo none ts = acc ++ joinGo (prevTok ts k) (ts.drop k))) (fun i _ => ts.length - (intOf i).toNat)
      case atStart => exact ⟨0, [], by omega, rfl, bld_fresh wo, (Below.refl _ _).alloc (Nat.le_refl _) _, by simp, by simp, show _ = _ from rfl⟩
      case round =>
        obtain ⟨k, acc, hk, rfl, hbl, hbq, hszq, hacc, hall⟩ := hrel
        by_cases hk1 : k < ts.length
        · obtain ⟨c0, c1, c2⟩ := HC.out k hk1
          have htl := HT.out ts[k] (List.getElem_mem hk1)
          have hbk : b < wo.heap.size := by have := hb.size; omega
          have hstep := joinGo_step hk1
          have d0 : wr.cell? ⟨b, o + k * 3, none⟩ = some (.int .i64 ts[k].kind) := (hbq.cell hbk).trans ((hb.cell hlt).trans c0)
          have d1 : wr.cell? ⟨b, o + k * 3 + 1, none⟩ = some (.string ⟨ts[k].text.toArray⟩) := (hbq.cell hbk).trans ((hb.cell hlt).trans c1)
          have d2 : wr.cell? ⟨b, o + k * 3 + 2, none⟩ = some (.int .i64 ts[k].pos) := (hbq.cell hbk).trans ((hb.cell hlt).trans c2)
          clear c0 c1 c2
          by_cases hk0 : k = 0
          · have hst2 : Hid (joinGo none ts = (acc ++ ts[k].text) ++ joinGo (prevTok ts (k + 1)) (ts.drop (k + 1))) := show _ = _ by
              rw [hall.out, hstep]
              have : ¬ ∃ p, prevTok ts k = some p ∧ gap p ts[k] = true := by simp [prevTok, hk0]
              rw [if_neg this]; simp
            clear hstep
            have hbgt : ¬ (0 : Int) < (k : Int) := by omega
            generalize ts[k] = t at *
            obtain ⟨kd, tx, ps⟩ := t
            simp only at d0 d1 d2 htl
            replace hk0 := Lib.hid hk0
            have hbl2 := fun o => bld_below hbl ((Below.refl _ _).alloc (Nat.le_refl _) o)
            have hws := Lib.hid (fun o => bld_writeString wo.heap.size wo.heap.size acc tx (wr.alloc o) (hbl2 o) (by omega) (by simp; omega))
            clear hbl2
            go_wp2_with fail
            (with_reducible refine (hws.out _).mono ?_); rintro e w2 ⟨rfl, hbl3, hb3, _⟩
            go_wp2_with fail
            go_roundw
            case rel => exact ⟨k + 1, acc ++ tx, by omega, by go_num, hbl3, (hbq.alloc hbq.size _).trans hb3, by have := hb3.size; simp at this; omega, by rw [List.length_append]; omega, hst2.out⟩
            case measure => simp [intOf]; omega
          · have hkm : k - 1 < ts.length := by omega
            obtain ⟨p0, p1, p2⟩ := HC.out (k - 1) hkm
            have hprev : prevTok ts k = some ts[k - 1] := by simp [prevTok, hk0, hkm]
            rw [hprev] at hstep
            have hst2 : Hid (joinGo none ts = (acc ++ (if gap ts[k - 1] ts[k] = true then [32] else []) ++ ts[k].text) ++ joinGo (prevTok ts (k + 1)) (ts.drop (k + 1))) := show _ = _ by
              rw [hall.out, hprev, hstep]; simp
            have q0 : wr.cell? ⟨b, o + (k - 1) * 3, none⟩ = some (.int .i64 ts[k - 1].kind) := (hbq.cell hbk).trans ((hb.cell hlt).trans p0)
            have q1 : wr.cell? ⟨b, o + (k - 1) * 3 + 1, none⟩ = some (.string ⟨ts[k - 1].text.toArray⟩) := (hbq.cell hbk).trans ((hb.cell hlt).trans p1)
            have q2 : wr.cell? ⟨b, o + (k - 1) * 3 + 2, none⟩ = some (.int .i64 ts[k - 1].pos) := (hbq.cell hbk).trans ((hb.cell hlt).trans p2)
            have hbk2 : b < wr.heap.size := by omega
            clear hstep hprev p0 p1 p2
            generalize ts[k] = t at *
            generalize ts[k - 1] = p at *
            obtain ⟨kd, tx, ps⟩ := t
            obtain ⟨pk, px, pp⟩ := p
            simp only at d0 d1 d2 htl q0 q1 q2
            have hk0' : 0 < k := by omega
            clear hk0
            have hkk : ((k : Int) - 1) = ((k - 1 : Nat) : Int) := by omega
            have hbl2 := Lib.hid (fun o => bld_below hbl ((Below.refl _ _).alloc (Nat.le_refl _) o))
            have hgap : gap ⟨pk, px, pp⟩ ⟨kd, tx, ps⟩ = ((wordlyB pk && wordlyB kd) || (decide (px = [60]) && decide (tx = [61]))) := rfl
            have e1 : (px == [60]) = decide (px = [60]) := by rw [Bool.eq_iff_iff]; simp
            have e2 : (tx == [61]) = decide (tx = [61]) := by rw [Bool.eq_iff_iff]; simp
            rw [hgap] at hst2
            cases hwp : wordlyB pk
            · rw [hwp] at hst2
              replace hwp := Lib.hid hwp
              clear hgap
              by_cases hpx : px = [60]
              · have f1 : (px == [60]) = true := by rw [e1]; simp [hpx]
                by_cases htx : tx = [61]
                · have f2 : (tx == [61]) = true := by rw [e2]; simp [htx]
                  rw [decide_eq_true hpx, decide_eq_true htx] at hst2
                  clear hpx htx e1 e2
                  go_wp2_with fail
                  (with_reducible refine (wordly_any _ _ _ _).mono ?_); rintro e w1 ⟨rfl, hb1⟩
                  rw [hwp.out]
                  obtain ⟨hc1, hf1⟩ := bcell hb1
                  have h1 := bld_below (hbl2.out _) hb1
                  have s1 : wr.heap.size < w1.heap.size := by have := hb1.size; simp at this; omega
                  have B1 := (hbq.alloc hbq.size (Obj.cells #[.int .i64 kd, .string ⟨tx.toArray⟩, .int .i64 ps] 32)).trans (hb1.mono (by simp; omega))
                  have t1 : w1.heap[wr.heap.size]? = some (.cells #[.int .i64 kd, .string ⟨tx.toArray⟩, .int .i64 ps] 32 (0, 0)) := by rw [hb1.block _ (by simp)]; exact heap_alloc_new _ _
                  replace h1 := Lib.hid h1
                  replace B1 := Lib.hid B1
                  replace t1 := Lib.hid t1
                  clear hb1
                  have c0 : w1.cell? ⟨wr.heap.size, 1, none⟩ = some (.string ⟨tx.toArray⟩) := by rw [World.cell?, t1.out]; rfl
                  have hwb : Hid (Calls Tryz.prog 43 #[.pointer (some ⟨wo.heap.size, 0, none⟩), .int .u8 32] w1 fun e w' => e = .returned .nilIface ∧ (IsBld wo.heap.size wo.heap.size (acc ++ [32]) w' ∧ Below wo.heap.size w1 w' ∧ Keeps wo.heap.size w1 w')) := bld_writeByte wo.heap.size wo.heap.size acc 32 w1 h1.out (by omega) (by omega)
                  go_wp2_with fail
                  (with_reducible refine (hwb.out).mono ?_); rintro e w3 ⟨rfl, h3, hb3, hk3⟩
                  have t3 := hk3 _ _ _ _ t1.out (by decide) (by omega)
                  have c3 : w3.cell? ⟨wr.heap.size, 1, none⟩ = some (.string ⟨tx.toArray⟩) := by rw [World.cell?, t3]; rfl
                  have hsz3 := hb3.size
                  have hws := Lib.hid (bld_writeString wo.heap.size wo.heap.size (acc ++ [32]) tx w3 h3 (by simp; omega) (by omega))
                  clear t3 h3 hk3
                  replace hb3 := Lib.hid hb3
                  go_wp2_with fail
                  (with_reducible refine (hws.out).mono ?_); rintro e w4 ⟨rfl, h4, hb4, _⟩
                  go_wp2_with fail
                  go_roundw
                  case rel => exact ⟨k + 1, acc ++ [32] ++ tx, by omega, by go_num, h4, (B1.out.trans hb3.out).trans hb4, by have := hb4.size; omega, by simp; omega, show _ = _ by have h := hst2.out; simpa using h⟩
                  case measure => simp [intOf]; omega
                · have f2 : (tx == [61]) = false := by rw [e2]; simp [htx]
                  rw [decide_eq_true hpx, decide_eq_false htx] at hst2
                  clear hpx htx e1 e2
                  go_wp2_with fail
                  (with_reducible refine (wordly_any _ _ _ _).mono ?_); rintro e w1 ⟨rfl, hb1⟩
                  rw [hwp.out]
                  obtain ⟨hc1, hf1⟩ := bcell hb1
                  have h1 := bld_below (hbl2.out _) hb1
                  have s1 : wr.heap.size < w1.heap.size := by have := hb1.size; simp at this; omega
                  have B1 := (hbq.alloc hbq.size (Obj.cells #[.int .i64 kd, .string ⟨tx.toArray⟩, .int .i64 ps] 32)).trans (hb1.mono (by simp; omega))
                  have t1 : w1.heap[wr.heap.size]? = some (.cells #[.int .i64 kd, .string ⟨tx.toArray⟩, .int .i64 ps] 32 (0, 0)) := by rw [hb1.block _ (by simp)]; exact heap_alloc_new _ _
                  replace h1 := Lib.hid h1
                  replace B1 := Lib.hid B1
                  replace t1 := Lib.hid t1
                  clear hb1
                  have c0 : w1.cell? ⟨wr.heap.size, 1, none⟩ = some (.string ⟨tx.toArray⟩) := by rw [World.cell?, t1.out]; rfl
                  have hws := Lib.hid (bld_writeString wo.heap.size wo.heap.size acc tx w1 h1.out (by omega) (by omega))
                  go_wp2_with fail
                  (with_reducible refine (hws.out).mono ?_); rintro e w4 ⟨rfl, h4, hb4, _⟩
                  go_wp2_with fail
                  go_roundw
                  case rel => exact ⟨k + 1, acc ++ tx, by omega, by go_num, h4, B1.out.trans hb4, by have := hb4.size; omega, by simp; omega, show _ = _ by have h := hst2.out; simpa using h⟩
                  case measure => simp [intOf]; omega
              · have f1 : (px == [60]) = false := by rw [e1]; simp [hpx]
                rw [decide_eq_false hpx] at hst2
                clear hpx e1 e2
                go_wp2_with fail
                (with_reducible refine (wordly_any _ _ _ _).mono ?_); rintro e w1 ⟨rfl, hb1⟩
                rw [hwp.out]
                obtain ⟨hc1, hf1⟩ := bcell hb1
                have h1 := bld_below (hbl2.out _) hb1
                have s1 : wr.heap.size < w1.heap.size := by have := hb1.size; simp at this; omega
                have B1 := (hbq.alloc hbq.size (Obj.cells #[.int .i64 kd, .string ⟨tx.toArray⟩, .int .i64 ps] 32)).trans (hb1.mono (by simp; omega))
                have t1 : w1.heap[wr.heap.size]? = some (.cells #[.int .i64 kd, .string ⟨tx.toArray⟩, .int .i64 ps] 32 (0, 0)) := by rw [hb1.block _ (by simp)]; exact heap_alloc_new _ _
                replace h1 := Lib.hid h1
                replace B1 := Lib.hid B1
                replace t1 := Lib.hid t1
                clear hb1
                have c0 : w1.cell? ⟨wr.heap.size, 1, none⟩ = some (.string ⟨tx.toArray⟩) := by rw [World.cell?, t1.out]; rfl
                have hws := Lib.hid (bld_writeString wo.heap.size wo.heap.size acc tx w1 h1.out (by omega) (by omega))
                go_wp2_with fail
                (with_reducible refine (hws.out).mono ?_); rintro e w4 ⟨rfl, h4, hb4, _⟩
                go_wp2_with fail
                go_roundw
                case rel => exact ⟨k + 1, acc ++ tx, by omega, by go_num, h4, B1.out.trans hb4, by have := hb4.size; omega, by simp; omega, show _ = _ by have h := hst2.out; simpa using h⟩
                case measure => simp [intOf]; omega
            · cases hwt : wordlyB kd
              · rw [hwp, hwt] at hst2
                replace hwp := Lib.hid hwp
                replace hwt := Lib.hid hwt
                clear hgap
                by_cases hpx : px = [60]
                · have f1 : (px == [60]) = true := by rw [e1]; simp [hpx]
                  by_cases htx : tx = [61]
                  · have f2 : (tx == [61]) = true := by rw [e2]; simp [htx]
                    rw [decide_eq_true hpx, decide_eq_true htx] at hst2
                    clear hpx htx e1 e2
                    go_wp2_with fail
                    (with_reducible refine (wordly_any _ _ _ _).mono ?_); rintro e w1 ⟨rfl, hb1⟩
                    rw [hwp.out]
                    obtain ⟨hc1, hf1⟩ := bcell hb1
                    have h1 := bld_below (hbl2.out _) hb1
                    have s1 : wr.heap.size < w1.heap.size := by have := hb1.size; simp at this; omega
                    have B1 := (hbq.alloc hbq.size (Obj.cells #[.int .i64 kd, .string ⟨tx.toArray⟩, .int .i64 ps] 32)).trans (hb1.mono (by simp; omega))
                    have t1 : w1.heap[wr.heap.size]? = some (.cells #[.int .i64 kd, .string ⟨tx.toArray⟩, .int .i64 ps] 32 (0, 0)) := by rw [hb1.block _ (by simp)]; exact heap_alloc_new _ _
                    replace h1 := Lib.hid h1
                    replace B1 := Lib.hid B1
                    replace t1 := Lib.hid t1
                    clear hb1
                    go_wp2_with fail
                    (with_reducible refine (wordly_any _ _ _ _).mono ?_); rintro e w2 ⟨rfl, hb2⟩
                    rw [hwt.out]
                    have hc2 := fun o (h : wr.heap.size < w1.heap.size) => hb2.cell (p := ⟨wr.heap.size, o, none⟩) h
                    have c0 : w2.cell? ⟨wr.heap.size, 1, none⟩ = some (.string ⟨tx.toArray⟩) := by rw [hb2.cell (p := ⟨wr.heap.size, 1, none⟩) s1, World.cell?, t1.out]; rfl
                    have c4 : w2.cell? ⟨b, o + (k - 1) * 3 + 1, none⟩ = some (.string ⟨px.toArray⟩) := by rw [hb2.cell (p := ⟨b, o + (k - 1) * 3 + 1, none⟩) (show b < w1.heap.size by omega), hc1 b _ (by first | omega | (simp; omega))]; exact (((Below.refl wr.heap.size wr).alloc (Nat.le_refl _) _).cell (p := ⟨b, _, none⟩) hbk2).trans q1
                    have h2 := bld_below h1.out hb2
                    have s2 : wr.heap.size < w2.heap.size := by have := hb2.size; omega
                    have B2 := B1.out.trans (hb2.mono (by omega))
                    have t2 : w2.heap[wr.heap.size]? = some (.cells #[.int .i64 kd, .string ⟨tx.toArray⟩, .int .i64 ps] 32 (0, 0)) := by rw [hb2.block _ s1]; exact t1.out
                    replace h2 := Lib.hid h2
                    replace B2 := Lib.hid B2
                    replace t2 := Lib.hid t2
                    clear hb2 hc2 hc1 hf1
                    have hwb : Hid (Calls Tryz.prog 43 #[.pointer (some ⟨wo.heap.size, 0, none⟩), .int .u8 32] w2 fun e w' => e = .returned .nilIface ∧ (IsBld wo.heap.size wo.heap.size (acc ++ [32]) w' ∧ Below wo.heap.size w2 w' ∧ Keeps wo.heap.size w2 w')) := bld_writeByte wo.heap.size wo.heap.size acc 32 w2 h2.out (by omega) (by omega)
                    go_wp2_with fail
                    (with_reducible refine (hwb.out).mono ?_); rintro e w3 ⟨rfl, h3, hb3, hk3⟩
                    have t3 := hk3 _ _ _ _ t2.out (by decide) (by omega)
                    have c3 : w3.cell? ⟨wr.heap.size, 1, none⟩ = some (.string ⟨tx.toArray⟩) := by rw [World.cell?, t3]; rfl
                    have hsz3 := hb3.size
                    have hws := Lib.hid (bld_writeString wo.heap.size wo.heap.size (acc ++ [32]) tx w3 h3 (by simp; omega) (by omega))
                    clear t3 h3 hk3
                    replace hb3 := Lib.hid hb3
                    go_wp2_with fail
                    (with_reducible refine (hws.out).mono ?_); rintro e w4 ⟨rfl, h4, hb4, _⟩
                    go_wp2_with fail
                    go_roundw
                    case rel => exact ⟨k + 1, acc ++ [32] ++ tx, by omega, by go_num, h4, (B2.out.trans hb3.out).trans hb4, by have := hb4.size; omega, by simp; omega, show _ = _ by have h := hst2.out; simpa using h⟩
                    case measure => simp [intOf]; omega
                  · have f2 : (tx == [61]) = false := by rw [e2]; simp [htx]
                    rw [decide_eq_true hpx, decide_eq_false htx] at hst2
                    clear hpx htx e1 e2
                    go_wp2_with fail
                    (with_reducible refine (wordly_any _ _ _ _).mono ?_); rintro e w1 ⟨rfl, hb1⟩
                    rw [hwp.out]
                    obtain ⟨hc1, hf1⟩ := bcell hb1
                    have h1 := bld_below (hbl2.out _) hb1
                    have s1 : wr.heap.size < w1.heap.size := by have := hb1.size; simp at this; omega
                    have B1 := (hbq.alloc hbq.size (Obj.cells #[.int .i64 kd, .string ⟨tx.toArray⟩, .int .i64 ps] 32)).trans (hb1.mono (by simp; omega))
                    have t1 : w1.heap[wr.heap.size]? = some (.cells #[.int .i64 kd, .string ⟨tx.toArray⟩, .int .i64 ps] 32 (0, 0)) := by rw [hb1.block _ (by simp)]; exact heap_alloc_new _ _
                    replace h1 := Lib.hid h1
                    replace B1 := Lib.hid B1
                    replace t1 := Lib.hid t1
                    clear hb1
                    go_wp2_with fail
                    (with_reducible refine (wordly_any _ _ _ _).mono ?_); rintro e w2 ⟨rfl, hb2⟩
                    rw [hwt.out]
                    have hc2 := fun o (h : wr.heap.size < w1.heap.size) => hb2.cell (p := ⟨wr.heap.size, o, none⟩) h
                    have c0 : w2.cell? ⟨wr.heap.size, 1, none⟩ = some (.string ⟨tx.toArray⟩) := by rw [hb2.cell (p := ⟨wr.heap.size, 1, none⟩) s1, World.cell?, t1.out]; rfl
                    have c4 : w2.cell? ⟨b, o + (k - 1) * 3 + 1, none⟩ = some (.string ⟨px.toArray⟩) := by rw [hb2.cell (p := ⟨b, o + (k - 1) * 3 + 1, none⟩) (show b < w1.heap.size by omega), hc1 b _ (by first | omega | (simp; omega))]; exact (((Below.refl wr.heap.size wr).alloc (Nat.le_refl _) _).cell (p := ⟨b, _, none⟩) hbk2).trans q1
                    have h2 := bld_below h1.out hb2
                    have s2 : wr.heap.size < w2.heap.size := by have := hb2.size; omega
                    have B2 := B1.out.trans (hb2.mono (by omega))
                    have t2 : w2.heap[wr.heap.size]? = some (.cells #[.int .i64 kd, .string ⟨tx.toArray⟩, .int .i64 ps] 32 (0, 0)) := by rw [hb2.block _ s1]; exact t1.out
                    replace h2 := Lib.hid h2
                    replace B2 := Lib.hid B2
                    replace t2 := Lib.hid t2
                    clear hb2 hc2 hc1 hf1
                    have hws := Lib.hid (bld_writeString wo.heap.size wo.heap.size acc tx w2 h2.out (by omega) (by omega))
                    go_wp2_with fail
                    (with_reducible refine (hws.out).mono ?_); rintro e w4 ⟨rfl, h4, hb4, _⟩
                    go_wp2_with fail
                    go_roundw
                    case rel => exact ⟨k + 1, acc ++ tx, by omega, by go_num, h4, B2.out.trans hb4, by have := hb4.size; omega, by simp; omega, show _ = _ by have h := hst2.out; simpa using h⟩
                    case measure => simp [intOf]; omega
                · have f1 : (px == [60]) = false := by rw [e1]; simp [hpx]
                  rw [decide_eq_false hpx] at hst2
                  clear hpx e1 e2
                  go_wp2_with fail
                  (with_reducible refine (wordly_any _ _ _ _).mono ?_); rintro e w1 ⟨rfl, hb1⟩
                  rw [hwp.out]
                  obtain ⟨hc1, hf1⟩ := bcell hb1
                  have h1 := bld_below (hbl2.out _) hb1
                  have s1 : wr.heap.size < w1.heap.size := by have := hb1.size; simp at this; omega
                  have B1 := (hbq.alloc hbq.size (Obj.cells #[.int .i64 kd, .string ⟨tx.toArray⟩, .int .i64 ps] 32)).trans (hb1.mono (by simp; omega))
                  have t1 : w1.heap[wr.heap.size]? = some (.cells #[.int .i64 kd, .string ⟨tx.toArray⟩, .int .i64 ps] 32 (0, 0)) := by rw [hb1.block _ (by simp)]; exact heap_alloc_new _ _
                  replace h1 := Lib.hid h1
                  replace B1 := Lib.hid B1
                  replace t1 := Lib.hid t1
                  clear hb1
                  go_wp2_with fail
                  (with_reducible refine (wordly_any _ _ _ _).mono ?_); rintro e w2 ⟨rfl, hb2⟩
                  rw [hwt.out]
                  have hc2 := fun o (h : wr.heap.size < w1.heap.size) => hb2.cell (p := ⟨wr.heap.size, o, none⟩) h
                  have c0 : w2.cell? ⟨wr.heap.size, 1, none⟩ = some (.string ⟨tx.toArray⟩) := by rw [hb2.cell (p := ⟨wr.heap.size, 1, none⟩) s1, World.cell?, t1.out]; rfl
                  have c4 : w2.cell? ⟨b, o + (k - 1) * 3 + 1, none⟩ = some (.string ⟨px.toArray⟩) := by rw [hb2.cell (p := ⟨b, o + (k - 1) * 3 + 1, none⟩) (show b < w1.heap.size by omega), hc1 b _ (by first | omega | (simp; omega))]; exact (((Below.refl wr.heap.size wr).alloc (Nat.le_refl _) _).cell (p := ⟨b, _, none⟩) hbk2).trans q1
                  have h2 := bld_below h1.out hb2
                  have s2 : wr.heap.size < w2.heap.size := by have := hb2.size; omega
                  have B2 := B1.out.trans (hb2.mono (by omega))
                  have t2 : w2.heap[wr.heap.size]? = some (.cells #[.int .i64 kd, .string ⟨tx.toArray⟩, .int .i64 ps] 32 (0, 0)) := by rw [hb2.block _ s1]; exact t1.out
                  replace h2 := Lib.hid h2
                  replace B2 := Lib.hid B2
                  replace t2 := Lib.hid t2
                  clear hb2 hc2 hc1 hf1
                  have hws := Lib.hid (bld_writeString wo.heap.size wo.heap.size acc tx w2 h2.out (by omega) (by omega))
                  go_wp2_with fail
                  (with_reducible refine (hws.out).mono ?_); rintro e w4 ⟨rfl, h4, hb4, _⟩
                  go_wp2_with fail
                  go_roundw
                  case rel => exact ⟨k + 1, acc ++ tx, by omega, by go_num, h4, B2.out.trans hb4, by have := hb4.size; omega, by simp; omega, show _ = _ by have h := hst2.out; simpa using h⟩
                  case measure => simp [intOf]; omega
              · rw [hwp, hwt] at hst2
                replace hwp := Lib.hid hwp
                replace hwt := Lib.hid hwt
                clear e1 e2 hgap
                go_wp2_with fail
                (with_reducible refine (wordly_any _ _ _ _).mono ?_); rintro e w1 ⟨rfl, hb1⟩
                rw [hwp.out]
                obtain ⟨hc1, hf1⟩ := bcell hb1
                have h1 := bld_below (hbl2.out _) hb1
                have s1 : wr.heap.size < w1.heap.size := by have := hb1.size; simp at this; omega
                have B1 := (hbq.alloc hbq.size (Obj.cells #[.int .i64 kd, .string ⟨tx.toArray⟩, .int .i64 ps] 32)).trans (hb1.mono (by simp; omega))
                have t1 : w1.heap[wr.heap.size]? = some (.cells #[.int .i64 kd, .string ⟨tx.toArray⟩, .int .i64 ps] 32 (0, 0)) := by rw [hb1.block _ (by simp)]; exact heap_alloc_new _ _
                replace h1 := Lib.hid h1
                replace B1 := Lib.hid B1
                replace t1 := Lib.hid t1
                clear hb1
                go_wp2_with fail
                (with_reducible refine (wordly_any _ _ _ _).mono ?_); rintro e w2 ⟨rfl, hb2⟩
                rw [hwt.out]
                have hc2 := fun o (h : wr.heap.size < w1.heap.size) => hb2.cell (p := ⟨wr.heap.size, o, none⟩) h
                have c0 : w2.cell? ⟨wr.heap.size, 1, none⟩ = some (.string ⟨tx.toArray⟩) := by rw [hb2.cell (p := ⟨wr.heap.size, 1, none⟩) s1, World.cell?, t1.out]; rfl
                have c4 : w2.cell? ⟨b, o + (k - 1) * 3 + 1, none⟩ = some (.string ⟨px.toArray⟩) := by rw [hb2.cell (p := ⟨b, o + (k - 1) * 3 + 1, none⟩) (show b < w1.heap.size by omega), hc1 b _ (by first | omega | (simp; omega))]; exact (((Below.refl wr.heap.size wr).alloc (Nat.le_refl _) _).cell (p := ⟨b, _, none⟩) hbk2).trans q1
                have h2 := bld_below h1.out hb2
                have s2 : wr.heap.size < w2.heap.size := by have := hb2.size; omega
                have B2 := B1.out.trans (hb2.mono (by omega))
                have t2 : w2.heap[wr.heap.size]? = some (.cells #[.int .i64 kd, .string ⟨tx.toArray⟩, .int .i64 ps] 32 (0, 0)) := by rw [hb2.block _ s1]; exact t1.out
                replace h2 := Lib.hid h2
                replace B2 := Lib.hid B2
                replace t2 := Lib.hid t2
                clear hb2 hc2 hc1 hf1
                have hwb : Hid (Calls Tryz.prog 43 #[.pointer (some ⟨wo.heap.size, 0, none⟩), .int .u8 32] w2 fun e w' => e = .returned .nilIface ∧ (IsBld wo.heap.size wo.heap.size (acc ++ [32]) w' ∧ Below wo.heap.size w2 w' ∧ Keeps wo.heap.size w2 w')) := bld_writeByte wo.heap.size wo.heap.size acc 32 w2 h2.out (by omega) (by omega)
                go_wp2_with fail
                (with_reducible refine (hwb.out).mono ?_); rintro e w3 ⟨rfl, h3, hb3, hk3⟩
                have t3 := hk3 _ _ _ _ t2.out (by decide) (by omega)
                have c3 : w3.cell? ⟨wr.heap.size, 1, none⟩ = some (.string ⟨tx.toArray⟩) := by rw [World.cell?, t3]; rfl
                have hsz3 := hb3.size
                have hws := Lib.hid (bld_writeString wo.heap.size wo.heap.size (acc ++ [32]) tx w3 h3 (by simp; omega) (by omega))
                clear t3 h3 hk3
                replace hb3 := Lib.hid hb3
                go_wp2_with fail
                (with_reducible refine (hws.out).mono ?_); rintro e w4 ⟨rfl, h4, hb4, _⟩
                go_wp2_with fail
                go_roundw
                case rel => exact ⟨k + 1, acc ++ [32] ++ tx, by omega, by go_num, h4, (B2.out.trans hb3.out).trans hb4, by have := hb4.size; omega, by simp; omega, show _ = _ by have h := hst2.out; simpa using h⟩
                case measure => simp [intOf]; omega
        · have hres : Hid (joinGo none ts = acc) := show _ = _ by rw [hall.out, List.drop_of_length_le (by omega)]; simp [joinGo]
          have hlen : Hid (Tryz.prog = Tryz.prog) := rfl
          have h1 := Lib.hid (Tryz.Builder_Len wo.heap.size wo.heap.size (Lib.byteCells acc) wr hbl)
          have h2 := Lib.hid (Tryz.Builder_String_any wo.heap.size wo.heap.size acc wr hbl (by omega))
          have hcl : (Lib.byteCells acc).length = acc.length := by simp [Lib.byteCells]
          rw [hcl] at h1
          clear hcl hlen
          by_cases hlg : 65536 < acc.length
          · have hj : Hid (join ts = .error 13) := show _ = _ by rw [join, if_neg (by omega), he0.out, if_neg (by simp), hres.out, if_pos hlg]
            go_wp2_with fail
            (with_reducible refine (h1.out).mono ?_); rintro e w1 ⟨rfl, rfl⟩
            go_wp2_with fail
            go_ret2
            exact ⟨by rw [hj.out]; rfl, hb.trans (hbq.mono hb.size)⟩
          · have hj : Hid (join ts = .ok acc) := show _ = _ by rw [join, if_neg (by omega), he0.out, if_neg (by simp), hres.out, if_neg hlg]
            go_wp2_with fail
            (with_reducible refine (h1.out).mono ?_); rintro e w1 ⟨rfl, rfl⟩
            go_wp2_with fail
            (with_reducible refine (h2.out).mono ?_); rintro e w2 ⟨rfl, hb2⟩
            go_wp2_with fail
            go_ret2
            exact ⟨by rw [hj.out]; rfl, (hb.trans (hbq.mono hb.size)).trans (hb2.mono hb.size)⟩
end Go.Proofs.YtpgedklpnnhjlaaGreatDoor
