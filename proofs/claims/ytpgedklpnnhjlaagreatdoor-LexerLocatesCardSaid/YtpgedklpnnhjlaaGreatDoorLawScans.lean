/- Walks: the statement LexerScans. -/
import Derived.Test.YtpgedklpnnhjlaaGreatDoorAwake
import Derived.Test.YtpgedklpnnhjlaaGreatDoorRefC
set_option maxHeartbeats 4000000
set_option maxRecDepth 100000
namespace Go.Proofs.YtpgedklpnnhjlaaGreatDoor
open Go.RowKit
def smallB (n : Nat) : Bool := decide (n ≤ 400) || (decide (65536 < n) && decide (n ≤ 65539))
theorem small_any (s : ByteArray) (w : World) (hs : s.size ≤ maxLen) :
    Calls Tryz.prog 8 #[.string s] w fun e w' => e = .returned (.bool (smallB s.size)) ∧ w = w' := by
  unfold maxLen at hs
  by_cases h1 : s.size ≤ 400
  · have hr : Hid (smallB s.size = true) := show _ = _ by simp [smallB, h1]
    go_enter Tryz.func8, Tryz.ntmps8
    go_wp2_with fail
    go_ret
    exact ⟨ret_b (by first | exact hr.out.symm | (rw [hr.out]; simp; done) | (rw [hr.out]; simp; omega)), rfl⟩
  · by_cases h2 : 65536 < s.size
    · by_cases h3 : s.size ≤ 65539
      · have hr : Hid (smallB s.size = true) := show _ = _ by simp [smallB, h1, h2, h3]
        go_enter Tryz.func8, Tryz.ntmps8
        go_wp2_with fail
        go_ret
        exact ⟨ret_b (by first | exact hr.out.symm | (rw [hr.out]; simp; done) | (rw [hr.out]; simp; omega)), rfl⟩
      · have hr : Hid (smallB s.size = false) := show _ = _ by simp [smallB, h1, h2, h3]
        go_enter Tryz.func8, Tryz.ntmps8
        go_wp2_with fail
        go_ret
        exact ⟨ret_b (by first | exact hr.out.symm | (rw [hr.out]; simp; done) | (rw [hr.out]; simp; omega)), rfl⟩
    · have hr : Hid (smallB s.size = false) := show _ = _ by simp [smallB, h1, h2]
      go_enter Tryz.func8, Tryz.ntmps8
      go_wp2_with fail
      go_ret
      exact ⟨ret_b (by first | exact hr.out.symm | (rw [hr.out]; simp; done) | (rw [hr.out]; simp; omega)), rfl⟩
theorem scanGo_len (f : Nat) : ∀ (p : Nat) (l : List UInt8) (ts : List Tok), scanGo f p l = .ok ts → ts.length ≤ l.length + 1 := by
  induction f with
  | zero => intro p l ts h; simp [scanGo] at h; subst h; simp
  | succ f ih =>
    intro p l ts h
    simp only [scanGo] at h
    split at h
    · simp at h; subst h; simp
    · rename_i c r hd
      have hlen : (c :: r).length = l.length - skip false l := by rw [← hd]; simp
      split at h
      · simp at h
      · rename_i kind n ht
        have hp := tok_pos ht
        split at h
        · simp at h
        · rename_i us hus
          have := ih _ _ _ hus
          simp at h; subst h
          simp only [List.length_drop] at this
          simp only [List.length_cons] at *
          omega
theorem scan_len {s : List UInt8} {ts : List Tok} (h : scan s = .ok ts) : ts.length ≤ 1000000000 := by
  unfold scan at h
  split at h
  · simp at h
  · have := scanGo_len _ _ _ _ h
    omega
theorem walkScans (s : ByteArray) (w : World) (hs : s.size ≤ maxLen) (he : Env w) :
    Calls Tryz.prog 3 #[.string s] w fun e w' => e = .returned (.bool true) ∧ Below w.heap.size w w' := by
  have hsm := Lib.hid (small_any s w hs)
  cases hb : smallB s.size
  · rw [hb] at hsm
    replace he := Lib.hid he
    clear hb hs
    go_enter Tryz.func3, Tryz.ntmps3
    go_wp2_with fail
    (with_reducible refine (hsm.out).mono ?_); rintro e w1 ⟨rfl, rfl⟩
    go_wp2_with fail
    (with_reducible refine (awake_any _ he.out).mono ?_); rintro e w2 ⟨rfl, b2⟩
    go_wp2_with fail
    go_ret
    exact ⟨rfl, b2⟩
  · rw [hb] at hsm
    have hl : s.size ≤ 65539 := by simp [smallB] at hb; omega
    obtain ⟨l, rfl⟩ : ∃ l : List UInt8, s = ⟨l.toArray⟩ := ⟨s.data.toList, by simp⟩
    rw [ba_size] at hl
    replace he := Lib.hid he
    clear hb hs
    have hS := Lib.hid (fun W h h0 => scan_any l W (by omega) h h0)
    have hR := Lib.hid (fun W => refScan_any l W (by omega))
    cases hsc : scan l with
    | error x =>
      obtain ⟨d, er⟩ := x
      rw [hsc] at hS hR
      clear hsc
      go_enter Tryz.func3, Tryz.ntmps3
      go_wp2_with fail
      (with_reducible refine (hsm.out).mono ?_); rintro e w1 ⟨rfl, rfl⟩
      go_wp2_with fail
      (with_reducible refine (hS.out _ he.out.signs he.out.signs.lt).mono ?_); rintro e w2 ⟨b2, h2⟩
      subst h2
      have E2 := Lib.hid (he.out.below b2)
      have B2 := Lib.hid b2
      clear b2
      go_wp2_with fail
      (with_reducible refine (hR.out _).mono ?_); rintro e w3 ⟨b3, h3⟩
      subst h3
      have E3 := Lib.hid (E2.out.below b3)
      have B3 := Lib.hid (B2.out.trans (b3.mono B2.out.size))
      clear b3
      go_wp2_with fail
      (with_reducible refine (awake_any _ E3.out).mono ?_); rintro e w4 ⟨rfl, b4⟩
      have E4 := Lib.hid (E3.out.below b4)
      have B4 := Lib.hid (B3.out.trans (b4.mono B3.out.size))
      clear b4
      go_wp2_with fail
      refine (same_any _ _ _ [] [] (.inl ⟨rfl, _, _, rfl⟩) (.inl ⟨rfl, _, _, rfl⟩) (by decide) (by decide)).mono ?_
      rintro e w5 ⟨rfl, n5, hw5⟩
      rw [decide_eq_true (rfl : ([] : List Tok) = [])]
      have B5 := Lib.hid (show Below w.heap.size w w5 by rw [hw5]; exact below_drawn B4.out n5)
      clear hw5
      go_wp2_with fail
      go_ret
      exact ⟨rfl, B5.out⟩
    | ok ts =>
      have hlen := scan_len hsc
      rw [hsc] at hS hR
      clear hsc
      go_enter Tryz.func3, Tryz.ntmps3
      go_wp2_with fail
      (with_reducible refine (hsm.out).mono ?_); rintro e w1 ⟨rfl, rfl⟩
      go_wp2_with fail
      (with_reducible refine (hS.out _ he.out.signs he.out.signs.lt).mono ?_); rintro e w2 ⟨b2, v2, rfl, o2⟩
      have E2 := Lib.hid (he.out.below b2)
      have B2 := Lib.hid b2
      have t2 := TokSl.of_owns o2
      obtain ⟨a2, c2, rfl⟩ := t2.len
      replace t2 := Lib.hid t2
      clear b2 o2
      go_wp2_with fail
      (with_reducible refine (hR.out _).mono ?_); rintro e w3 ⟨b3, v3, rfl, o3⟩
      have E3 := Lib.hid (E2.out.below b3)
      have B3 := Lib.hid (B2.out.trans (b3.mono B2.out.size))
      have t3 := TokSl.of_owns o3
      obtain ⟨a3, c3, rfl⟩ := t3.len
      replace t3 := Lib.hid t3
      have u2 := Lib.hid (t2.out.below b3)
      clear b3 o3
      go_wp2_with fail
      (with_reducible refine (awake_any _ E3.out).mono ?_); rintro e w4 ⟨rfl, b4⟩
      have B4 := Lib.hid (B3.out.trans (b4.mono B3.out.size))
      have u3 := Lib.hid (u2.out.below b4)
      have u4 := Lib.hid (t3.out.below b4)
      clear b4
      go_wp2_with fail
      refine (same_any _ _ _ ts ts u3.out u4.out hlen hlen).mono ?_
      rintro e w5 ⟨rfl, n5, hw5⟩
      rw [decide_eq_true (rfl : ts = ts)]
      have B5 := Lib.hid (show Below w.heap.size w w5 by rw [hw5]; exact below_drawn B4.out n5)
      clear hw5
      go_wp2_with fail
      go_ret
      exact ⟨rfl, B5.out⟩
end Go.Proofs.YtpgedklpnnhjlaaGreatDoor
