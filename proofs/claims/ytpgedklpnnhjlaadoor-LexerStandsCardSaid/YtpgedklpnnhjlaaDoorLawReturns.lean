/- Walks: the statement LexerReturns. -/
import Derived.Test.YtpgedklpnnhjlaaDoorAwake
import Derived.Test.YtpgedklpnnhjlaaDoorAlike
import Derived.Test.YtpgedklpnnhjlaaDoorPlainD
import Derived.Deep.RegionHeld3
set_option maxHeartbeats 4000000
set_option maxRecDepth 100000
namespace Go.Proofs.YtpgedklpnnhjlaaDoor
open Go.RowKit
theorem below_of_drawn {w w' : World} {n : Nat} (h : w' = w.drewN n) : Below w.heap.size w w' := by rw [h]; exact below_drawn (Below.refl _ _) n
theorem Env.drew {w : World} (h : Env w) : Env w.drew := h.below ((Below.refl _ _).drew)
theorem stand_len {s : List UInt8} : ∀ (ts : List Tok) (p : Nat), Stand s p ts → ∀ t ∈ ts, t.text.length ≤ s.length := by
  intro ts
  induction ts with
  | nil => intro p _ t h; simp at h
  | cons u r ih =>
    intro p h t ht
    rcases List.mem_cons.1 ht with rfl | ht
    · have := h.2.1; omega
    · exact ih _ h.2.2.2.2 t ht
theorem scan_texts {s : List UInt8} {ts : List Tok} (h : scan s = .ok ts) (hs : s.length ≤ 1000000) : ∀ t ∈ ts, t.text.length ≤ 1000000 := by
  intro t ht
  have := stand_len ts 0 (scan_stand h).1 t ht
  omega
theorem scanGo_len' (f : Nat) : ∀ (p : Nat) (l : List UInt8) (ts : List Tok), scanGo f p l = .ok ts → ts.length ≤ l.length + 1 := by
  induction f with
  | zero => intro p l ts h; simp [scanGo] at h; subst h; simp
  | succ f ih =>
    intro p l ts h
    simp only [scanGo] at h
    split at h
    · simp at h; subst h; simp
    · rename_i c r hd
      have hlen : (c :: r).length = l.length - skip false l := by rw [← hd]; simp
      split at h
      · simp at h
      · rename_i kind n ht
        have hp := tok_pos ht
        split at h
        · simp at h
        · rename_i us hus
          have := ih _ _ _ hus
          simp at h; subst h
          simp only [List.length_drop] at this
          simp only [List.length_cons] at *
          omega
theorem scan_count {s : List UInt8} {ts : List Tok} (h : scan s = .ok ts) : ts.length ≤ s.length + 1 := by
  unfold scan at h
  split at h
  · simp at h
  · exact scanGo_len' _ _ _ _ h
/-- What the statement asks of a text whose tokens are ts. -/
theorem returns_plain {s : List UInt8} {ts : List Tok} (h : scan s = .ok ts) (hs : s.length ≤ 200) :
    join ts = .ok (joinGo none ts) ∧ (joinGo none ts).length ≤ s.length ∧ (∃ ms, scan (joinGo none ts) = .ok ms ∧ alikeB ts ms = true) ∧
    ∀ i ms, (joinGo none ts)[i]? = some 32 → scan ((joinGo none ts).take i ++ (joinGo none ts).drop (i + 1)) = .ok ms → alikeB ts ms = false := by
  have hc := scan_count h
  rw [scan_eq (by omega)] at h
  obtain ⟨g, hl, _⟩ := scanGo_good _ _ _ _ (by omega) h
  have hj : join ts = .ok (joinGo none ts) := by
    rw [join, if_neg (by omega), good_errs ts g, if_neg (by simp), if_neg (by omega)]
  refine ⟨hj, hl, ?_, ?_⟩
  · obtain ⟨ms, hm, ha⟩ := scan_join ts g 0
    exact ⟨ms, by rw [scan_eq (by omega)]; exact hm, by rw [alikeB, decide_eq_true_eq]; exact ha⟩
  · intro i ms hi hm
    have hle : ((joinGo none ts).take i ++ (joinGo none ts).drop (i + 1)).length ≤ 65536 := by
      rw [List.length_append, List.length_take, List.length_drop]; omega
    rw [scan_eq hle] at hm
    have := scan_cut ts g 0 i hi ms hm
    rw [alikeB, decide_eq_false_iff_not]; exact this
theorem walkReturns (s : ByteArray) (w : World) (hs : s.size ≤ maxLen) (he : Env w) :
    Calls Tryd.prog 3 #[.string s] w fun e w' => e = .returned (.bool true) ∧ Below w.heap.size w w' := by
  have E0 := Lib.hid he
  have B0 := Lib.hid (Below.refl w.heap.size w)
  unfold maxLen at hs
  clear he
  by_cases hb : 200 < s.size
  · go_enter Tryd.func3, Tryd.ntmps3
    go_wp2_with fail
    (with_reducible refine (awake_any _ E0.out).mono ?_); rintro e w1 ⟨rfl, b1⟩
    have E1 := Lib.hid (E0.out.below b1)
    have B1 := Lib.hid (B0.out.trans (b1.mono B0.out.size))
    replace b1 := Lib.hid b1
    go_wp2_with fail
    go_ret
    exact ⟨rfl, B1.out⟩
  · obtain ⟨l, rfl⟩ : ∃ l : List UInt8, s = ⟨l.toArray⟩ := ⟨s.data.toList, by simp⟩
    rw [ba_size] at hb
    have hl := Lib.hid (show l.length ≤ 200 by omega)
    have hS := Lib.hid (fun (x : List UInt8) W (E : Env W) (hx : x.length ≤ 1000000) => scan_any x W hx E.signs E.signs.lt)
    cases hsc : scan l with
    | error x =>
      obtain ⟨d, er⟩ := x
      have hS1 := fun W E => hS.out l W E (by have := hl.out; omega)
      rw [hsc] at hS1
      have her : ((er : Int) != 0) = true := by
        rw [bne_iff_ne]
        have := scan_err hsc
        omega
      replace hS1 := Lib.hid hS1
      clear hsc
      go_enter Tryd.func3, Tryd.ntmps3
      go_wp2_with fail
      (with_reducible refine (hS1.out _ E0.out).mono ?_); rintro e w1 ⟨b1, rfl⟩
      have E1 := Lib.hid (E0.out.below b1)
      have B1 := Lib.hid (B0.out.trans (b1.mono B0.out.size))
      clear b1
      go_wp2_with fail
      (with_reducible refine (awake_any _ E1.out).mono ?_); rintro e w2 ⟨rfl, b2⟩
      have E2 := Lib.hid (E1.out.below b2)
      have B2 := Lib.hid (B1.out.trans (b2.mono B1.out.size))
      replace b2 := Lib.hid b2
      go_wp2_with fail
      go_ret
      exact ⟨rfl, B2.out⟩
    | ok ts =>
      obtain ⟨hj, hjl, ⟨ms, hms, hal⟩, hcut⟩ := returns_plain hsc hl.out
      have htx := Lib.hid (scan_texts hsc (by have := hl.out; omega))
      have hct := scan_count hsc
      have hcm := scan_count hms
      have hl' := hl.out
      generalize joinGo none ts = js at *
      have hS1 := fun W E => hS.out l W E (by omega)
      have hS2 := fun W E => hS.out js W E (by omega)
      rw [hsc] at hS1
      rw [hms] at hS2
      replace hS1 := Lib.hid hS1
      replace hS2 := Lib.hid hS2
      replace hj := Lib.hid hj
      replace hal := Lib.hid hal
      replace hcut := Lib.hid hcut
      have g1 : decide ((200 : Int) < (l.length : Int)) = false := by rw [decide_eq_false_iff_not]; omega
      have g2 : decide ((l.length : Int) < (js.length : Int)) = false := by rw [decide_eq_false_iff_not]; omega
      have g3 : decide (l.length < js.length) = false := by rw [decide_eq_false_iff_not]; omega
      clear hsc hms
      go_enter Tryd.func3, Tryd.ntmps3
      go_wp2_with fail
      (with_reducible refine (hS1.out _ E0.out).mono ?_); rintro e w1 ⟨b1, v1, rfl, o1⟩
      have E1 := Lib.hid (E0.out.below b1)
      have B1 := Lib.hid (B0.out.trans (b1.mono B0.out.size))
      have t1 := Lib.hid (TokSl.of_owns o1)
      clear b1 o1
      go_wp2_with fail
      (with_reducible refine (join_any _ ts _ t1.out (by omega) htx.out E1.out.signs E1.out.signs.lt).mono ?_); rintro e w2 ⟨rfl, b2⟩
      have E2 := Lib.hid (E1.out.below b2)
      have B2 := Lib.hid (B1.out.trans (b2.mono B1.out.size))
      have t2 := Lib.hid (t1.out.below b2)
      clear b2
      rw [hj.out]
      simp only [joinVal]
      go_wp2_with fail
      (with_reducible refine (hS2.out _ E2.out).mono ?_); rintro e w3 ⟨b3, v3, rfl, o3⟩
      have E3 := Lib.hid (E2.out.below b3)
      have B3 := Lib.hid (B2.out.trans (b3.mono B2.out.size))
      have t3 := Lib.hid (t2.out.below b3)
      have u3 := Lib.hid (TokSl.of_owns o3)
      clear b3 o3
      go_wp2_with fail
      (with_reducible refine (alike_any _ _ _ ts ms t3.out u3.out (by omega) (by omega)).mono ?_); rintro e w4 ⟨rfl, n4, h4⟩
      have b4 := below_of_drawn h4
      have E4 := Lib.hid (E3.out.below b4)
      have B4 := Lib.hid (B3.out.trans (b4.mono B3.out.size))
      have t4 := Lib.hid (t3.out.below b4)
      clear b4 h4
      rw [hal.out]
      go_wp2_with fail
      go_loopw [11] (fun i wr => ∃ k : Nat, k ≤ js.length ∧ i = .int .i64 k ∧ Below w4.heap.size w4 wr) (fun i _ => js.length - (intOf i).toNat)
      case atStart => exact ⟨0, by omega, rfl, Below.refl _ _⟩
      case round =>
        obtain ⟨k, hk, rfl, hb5⟩ := hrel
        have E5 := Lib.hid (E4.out.below hb5)
        have t5 := Lib.hid (t4.out.below hb5)
        replace hb5 := Lib.hid hb5
        by_cases hk1 : k < js.length
        · by_cases h32 : js[k].toNat = 32
          · have h32b : ((js[k].toNat : Int) != 32) = false := by simp [h32]
            have h8 : js[k]? = some 32 := by rw [List.getElem?_eq_getElem hk1]; congr 1; exact UInt8.toNat_inj.1 h32
            have hcut2 := fun ms => hcut.out k ms h8
            have q1 : (0 : Int) ≤ (k : Int) + 1 := by omega
            have q2 : (k : Int) + 1 ≤ (js.length : Int) := by omega
            have q3 : IntKind.i64.wrap ((k : Int) + 1) = (k : Int) + 1 := IntWalk.i64_in _ (by omega)
            have q4 : ((k : Int) + 1).toNat = k + 1 := by omega
            have q5 : (0 : Int) ≤ (k : Int) := by omega
            have q6 : (k : Int) ≤ (js.length : Int) := by omega
            have q7 : ¬ 9223372036854775807 < k + (js.length - (k + 1)) := by omega
            replace h32 := Lib.hid h32
            replace h8 := Lib.hid h8
            have hS3 := fun W E => hS.out (js.take k ++ js.drop (k + 1)) W E (by rw [List.length_append, List.length_take, List.length_drop]; omega)
            cases hsx : scan (js.take k ++ js.drop (k + 1)) with
            | error x =>
              obtain ⟨d, er⟩ := x
              have her : ((er : Int) == 0) = false := by
                rw [beq_eq_false_iff_ne]
                have := scan_err hsx
                omega
              rw [hsx] at hS3
              replace hS3 := Lib.hid hS3
              clear hcut2 hsx
              go_wp2_with fail
              go_region_held3 (fun w' => Env w') (first | exact E5.out.drew | exact E5.out.drew.below b6)
                (first | (go_at_call 7; refine (hS3.out _ E5.out.drew).mono ?_; rintro e w6 ⟨b6, rfl⟩))
              go_wp2_with fail
              go_roundw
              case rel => exact ⟨k + 1, by omega, by go_num, hb5.out.trans (((Below.refl _ _).drew.trans (b6.mono (by simp))).mono hb5.out.size)⟩
              case measure => simp [intOf]; omega
            | ok ms3 =>
              have hal3 := hcut2 ms3 hsx
              have hc3 := scan_count hsx
              have hc3 : ms3.length ≤ 1000000000 := by
                rw [List.length_append, List.length_take, List.length_drop] at hc3; omega
              rw [hsx] at hS3
              replace hS3 := Lib.hid hS3
              replace hal3 := Lib.hid hal3
              clear hcut2 hsx
              go_wp2_with fail
              go_region_held3 (fun w' => Env w') (first | exact E5.out.drew | exact E5.out.drew.below b6)
                (first | (go_at_call 7; refine (hS3.out _ E5.out.drew).mono ?_; rintro e w6 ⟨b6, v6, rfl, o6⟩))
              have b66 := (Below.refl wr.heap.size wr).drew.trans (b6.mono (by simp))
              have t6 := Lib.hid (t5.out.below b66)
              have u6 := Lib.hid (TokSl.of_owns o6)
              replace b66 := Lib.hid b66
              clear b6 o6
              go_wp2_with fail
              (with_reducible refine (alike_any _ _ _ ts ms3 t6.out u6.out (by omega) hc3).mono ?_); rintro e w7 ⟨rfl, n7, h7⟩
              have b7 := below_of_drawn h7
              rw [hal3.out]
              clear h7
              replace b7 := Lib.hid b7
              go_wp2_with fail
              go_roundw
              case rel => exact ⟨k + 1, by omega, by go_num, (hb5.out.trans (b66.out.mono hb5.out.size)).trans (b7.out.mono (by have := hb5.out.size; have := b66.out.size; omega))⟩
              case measure => simp [intOf]; omega
          · have h32b : ((js[k].toNat : Int) != 32) = true := by rw [bne_iff_ne]; omega
            replace h32 := Lib.hid h32
            go_wp2_with fail
            go_roundw
            case rel => exact ⟨k + 1, by omega, by go_num, hb5.out⟩
            case measure => simp [intOf]; omega
        · have B5 := Lib.hid (B4.out.trans (hb5.out.mono B4.out.size))
          go_wp2_with fail
          (with_reducible refine (awake_any _ E5.out).mono ?_); rintro e w6 ⟨rfl, b6⟩
          have E6 := Lib.hid (E5.out.below b6)
          have B6 := Lib.hid (B5.out.trans (b6.mono B5.out.size))
          replace b6 := Lib.hid b6
          go_wp2_with fail
          go_ret
          exact ⟨rfl, B6.out⟩
end Go.Proofs.YtpgedklpnnhjlaaDoor
