/- Walks: the statement LexerPlaces. -/
import Derived.Test.YtpgedklpnnhjlaaGreatDoorLawScans
import Derived.Test.YtpgedklpnnhjlaaGreatDoorLexJ
set_option maxHeartbeats 4000000
set_option maxRecDepth 100000
namespace Go.Proofs.YtpgedklpnnhjlaaGreatDoor
open Go.RowKit
theorem below_of_some {w w' : World} (h : ∃ n, w' = w.drewN n) : Below w.heap.size w w' := by obtain ⟨n, rfl⟩ := h; exact below_drawn (Below.refl _ _) n
theorem posVal_form (s : List UInt8) (a : Int) : ∃ x y z : Int, posVal s a = .tuple #[.int .i64 x, .int .i64 y, .int .i64 z] := by
  unfold posVal; split
  · exact ⟨_, _, _, rfl⟩
  · exact ⟨_, _, _, rfl⟩
theorem excVal_form (s : List UInt8) (a : Int) : ∃ (t : List UInt8) (z : Int), excVal s a = .tuple #[.string ⟨t.toArray⟩, .int .i64 z] := by
  unfold excVal; split
  · exact ⟨_, _, rfl⟩
  · exact ⟨[], _, rfl⟩
theorem offVal_form (r : Except Nat Nat) : ∃ x z : Int, offVal r = .tuple #[.int .i64 x, .int .i64 z] := by
  cases r
  · exact ⟨_, _, rfl⟩
  · exact ⟨_, _, rfl⟩
theorem walkPlaces (s : ByteArray) (a p q : Int) (w : World) (hs : s.size ≤ maxLen) (he : Env w) :
    Calls Tryz.prog 6 #[.string s, .int .i64 a, .agg #[.int .i64 p, .int .i64 q]] w fun e w' => e = .returned (.bool true) ∧ Below w.heap.size w w' := by
  have E0 := Lib.hid he
  clear he
  have hsm := fun W => small_any s W hs
  unfold maxLen at hs
  cases hb : smallB s.size
  · rw [hb] at hsm
    replace hsm := Lib.hid hsm
    clear hb
    go_enter Tryz.func6, Tryz.ntmps6
    go_wp2_with fail
    (with_reducible refine (hsm.out _).mono ?_); rintro e w1 ⟨rfl, h1⟩
    have B1 := Lib.hid (show Below w.heap.size w w1 by rw [← h1]; exact (Below.refl _ _).alloc (Nat.le_refl _) _)
    have E1 := Lib.hid (E0.out.below B1.out)
    clear h1
    go_wp2_with fail
    (with_reducible refine (awake_any _ E1.out).mono ?_); rintro e w2 ⟨rfl, b2⟩
    have E2 := Lib.hid (E1.out.below b2)
    have B2 := Lib.hid (B1.out.trans (b2.mono B1.out.size))
    replace b2 := Lib.hid b2
    go_wp2_with fail
    go_ret
    exact ⟨rfl, B2.out⟩
  · rw [hb] at hsm
    have hl : s.size ≤ 65539 := by simp [smallB] at hb; omega
    obtain ⟨l, rfl⟩ : ∃ l : List UInt8, s = ⟨l.toArray⟩ := ⟨s.data.toList, by simp⟩
    rw [ba_size] at hl
    replace hsm := Lib.hid hsm
    clear hb hs
    have hP := fun W => position_any l a W (by omega)
    have hP2 := fun W => refPosition_any l a W (by omega)
    have hO := fun W (E : Env W) => offset_any l p q W (by omega) E.most
    have hO2 := fun W => refOffset_any l p q W (by omega)
    have hX := fun W (E : Env W) => excerpt_any l a W (by omega) E.most
    have hX2 := fun W => refExcerpt_any l a W (by omega)
    obtain ⟨p1, p2, p3, hpv⟩ := posVal_form l a
    obtain ⟨o1, o2, hov⟩ := offVal_form (offRes l p q)
    obtain ⟨t, x2, hxv⟩ := excVal_form l a
    rw [hpv] at hP hP2
    rw [hov] at hO hO2
    rw [hxv] at hX hX2
    replace hP := Lib.hid hP
    replace hP2 := Lib.hid hP2
    replace hO := Lib.hid hO
    replace hO2 := Lib.hid hO2
    replace hX := Lib.hid hX
    replace hX2 := Lib.hid hX2
    clear hpv hov hxv
    go_enter Tryz.func6, Tryz.ntmps6
    go_wp2_with fail
    (with_reducible refine (hsm.out _).mono ?_); rintro e w1 ⟨rfl, h1⟩
    have B1 := Lib.hid (show Below w.heap.size w w1 by rw [← h1]; exact (Below.refl _ _).alloc (Nat.le_refl _) _)
    have E1 := Lib.hid (E0.out.below B1.out)
    have hw0 : w.heap.size < w1.heap.size := by rw [← h1]; simp
    have hblk : w1.heap[w.heap.size]? = some (.cells #[.int .i64 p, .int .i64 q] 43 (0, 0)) := by rw [← h1]; exact heap_alloc_new _ _
    replace hblk := Lib.hid hblk
    clear h1
    go_wp2_with fail
    (with_reducible refine (hP.out _).mono ?_); rintro e w2 ⟨rfl, h2⟩
    have b2 := below_of_some h2
    have E2 := Lib.hid (E1.out.below b2)
    have B2 := Lib.hid (B1.out.trans (b2.mono B1.out.size))
    have s2 : w.heap.size < w2.heap.size := by have := b2.size; omega
    have k2 := Lib.hid ((b2.block _ hw0).trans hblk.out)
    have c0 : w2.cell? ⟨w.heap.size, 0, none⟩ = some (.int .i64 p) := by rw [World.cell?, k2.out]; rfl
    have c1 : w2.cell? ⟨w.heap.size, 1, none⟩ = some (.int .i64 q) := by rw [World.cell?, k2.out]; rfl
    clear b2 h2
    go_wp2_with fail
    (with_reducible refine (hP2.out _).mono ?_); rintro e w3 ⟨rfl, h3⟩
    subst h3
    go_wp2_with fail
    (with_reducible refine (hO.out _ E2.out).mono ?_); rintro e w3 ⟨rfl, b3⟩
    have E3 := Lib.hid (E2.out.below b3)
    have B3 := Lib.hid (B2.out.trans (b3.mono B2.out.size))
    have d0 : w3.cell? ⟨w.heap.size, 0, none⟩ = some (.int .i64 p) := by rw [World.cell?, b3.block _ s2, k2.out]; rfl
    have d1 : w3.cell? ⟨w.heap.size, 1, none⟩ = some (.int .i64 q) := by rw [World.cell?, b3.block _ s2, k2.out]; rfl
    clear b3 c0 c1
    go_wp2_with fail
    (with_reducible refine (hO2.out _).mono ?_); rintro e w4 ⟨rfl, h4⟩
    subst h4
    go_wp2_with fail
    (with_reducible refine (hX.out _ E3.out).mono ?_); rintro e w4 ⟨rfl, b4⟩
    have E4 := Lib.hid (E3.out.below b4)
    have B4 := Lib.hid (B3.out.trans (b4.mono B3.out.size))
    replace b4 := Lib.hid b4
    go_wp2_with fail
    (with_reducible refine (hX2.out _).mono ?_); rintro e w5 ⟨rfl, h5⟩
    subst h5
    go_wp2_with fail
    (with_reducible refine (awake_any _ E4.out).mono ?_); rintro e w5 ⟨rfl, b5⟩
    have E5 := Lib.hid (E4.out.below b5)
    have B5 := Lib.hid (B4.out.trans (b5.mono B4.out.size))
    replace b5 := Lib.hid b5
    go_wp2_with fail
    go_ret
    exact ⟨rfl, B5.out⟩
end Go.Proofs.YtpgedklpnnhjlaaGreatDoor
