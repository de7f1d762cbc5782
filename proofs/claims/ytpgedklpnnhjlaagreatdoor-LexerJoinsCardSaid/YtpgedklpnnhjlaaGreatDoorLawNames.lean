/- Walks: the statement LexerNames. -/
import Derived.Test.YtpgedklpnnhjlaaGreatDoorAwake
import Derived.Test.YtpgedklpnnhjlaaGreatDoorRefE
set_option maxHeartbeats 4000000
set_option maxRecDepth 100000
namespace Go.Proofs.YtpgedklpnnhjlaaGreatDoor
open Go.RowKit
theorem below_of_drawn {w w' : World} {n : Nat} (h : w' = w.drewN n) : Below w.heap.size w w' := by rw [h]; exact below_drawn (Below.refl _ _) n
theorem kw_sl (w : World) : StrSl (w.alloc (.cells kwVals 9)) (.slice (some ⟨w.heap.size, 0, none⟩) 46 46) kwTexts := by
  refine ⟨w.heap.size, 0, 46, rfl, by simp, fun k hk => ?_⟩
  rw [World.cell?, heap_alloc_new, Nat.zero_add]
  simp [kwVals, hk]
def KwSl (w : World) (e : Ending) (w' : World) : Prop := ∃ v, (e = .returned v ∧ StrSl w' v kwTexts) ∧ Below w.heap.size w w'
theorem keywords_sl (w : World) (hsp : SpaceAt w) : Calls Tryz.prog 20 #[] w (KwSl w) := by
  refine (keywords_any w hsp).mono ?_
  rintro e w' ⟨rfl, rfl⟩
  exact ⟨_, ⟨rfl, kw_sl w⟩, (Below.refl _ _).alloc (Nat.le_refl _) _⟩
theorem walkNames (s : ByteArray) (w : World) (hs : s.size ≤ maxLen) (he : Env w) :
    Calls Tryz.prog 5 #[.string s] w fun e w' => e = .returned (.bool true) ∧ Below w.heap.size w w' := by
  have E0 := Lib.hid he
  have B0 := Lib.hid (Below.refl w.heap.size w)
  unfold maxLen at hs
  clear he
  by_cases hb : 60 < s.size
  · go_enter Tryz.func5, Tryz.ntmps5
    go_wp2_with fail
    (with_reducible refine (awake_any _ E0.out).mono ?_); rintro e w1 ⟨rfl, b1⟩
    have E1 := Lib.hid (E0.out.below b1)
    have B1 := Lib.hid (B0.out.trans (b1.mono B0.out.size))
    replace b1 := Lib.hid b1
    go_wp2_with fail
    go_ret
    exact ⟨rfl, B1.out⟩
  · obtain ⟨l, rfl⟩ : ∃ l : List UInt8, s = ⟨l.toArray⟩ := ⟨s.data.toList, by simp⟩
    rw [ba_size] at hb
    have hl := Lib.hid (show l.length ≤ 1000000 by omega)
    have hN := Lib.hid (fun W (E : Env W) => name_any l W hl.out E.signs E.space)
    have hM := Lib.hid (fun W => refName_any l W hl.out)
    have hR := Lib.hid (fun W (E : Env W) => reserved_any l W E.space)
    have hQ := Lib.hid (fun W => refReserved_any l W)
    generalize hne : nameErr l = ne at *
    generalize hrs : reservedB l = rs at *
    have h46 : Hid (kwTexts.length = 46) := show _ = _ from rfl
    have q1 : (rs == rs) = true := by simp
    clear hne hrs
    go_enter Tryz.func5, Tryz.ntmps5
    go_wp2_with fail
    (with_reducible refine (awake_any _ E0.out).mono ?_); rintro e w1 ⟨rfl, b1⟩
    have E1 := Lib.hid (E0.out.below b1)
    have B1 := Lib.hid (B0.out.trans (b1.mono B0.out.size))
    replace b1 := Lib.hid b1
    go_wp2_with fail
    (with_reducible refine (hN.out _ E1.out).mono ?_); rintro e w2 ⟨rfl, b2⟩
    have E2 := Lib.hid (E1.out.below b2)
    have B2 := Lib.hid (B1.out.trans (b2.mono B1.out.size))
    replace b2 := Lib.hid b2
    go_wp2_with fail
    (with_reducible refine (hM.out _).mono ?_); rintro e w3 ⟨rfl, b3⟩
    have E3 := Lib.hid (E2.out.below b3)
    have B3 := Lib.hid (B2.out.trans (b3.mono B2.out.size))
    replace b3 := Lib.hid b3
    go_wp2_with fail
    (with_reducible refine (hR.out _ E3.out).mono ?_); rintro e w4 ⟨rfl, b4⟩
    have E4 := Lib.hid (E3.out.below b4)
    have B4 := Lib.hid (B3.out.trans (b4.mono B3.out.size))
    replace b4 := Lib.hid b4
    go_wp2_with fail
    (with_reducible refine (hQ.out _).mono ?_); rintro e w5 ⟨rfl, b5⟩
    have E5 := Lib.hid (E4.out.below b5)
    have B5 := Lib.hid (B4.out.trans (b5.mono B4.out.size))
    replace b5 := Lib.hid b5
    go_wp2_with fail
    (with_reducible refine (keywords_sl _ E5.out.space).mono ?_); rintro e w6 ⟨v6, ⟨rfl, t6⟩, b6⟩
    have E6 := Lib.hid (E5.out.below b6)
    have B6 := Lib.hid (B5.out.trans (b6.mono B5.out.size))
    replace t6 := Lib.hid t6
    clear b6
    go_wp2_with fail
    (with_reducible refine (refKeywords_any _).mono ?_); rintro e w7 ⟨b7, v7, rfl, t7⟩
    have B7 := Lib.hid (B6.out.trans (b7.mono B6.out.size))
    have t6' := Lib.hid (t6.out.below b7)
    replace t7 := Lib.hid t7
    clear b7
    go_wp2_with fail
    (with_reducible refine (sameWords_eq _ _ _ _ (by rw [h46.out]; decide) t6'.out t7.out).mono ?_); rintro e w8 ⟨rfl, n8, h8⟩
    have B8 := Lib.hid (B7.out.trans ((below_of_drawn h8).mono B7.out.size))
    clear h8
    go_wp2_with fail
    go_ret
    exact ⟨rfl, B8.out⟩
end Go.Proofs.YtpgedklpnnhjlaaGreatDoor
