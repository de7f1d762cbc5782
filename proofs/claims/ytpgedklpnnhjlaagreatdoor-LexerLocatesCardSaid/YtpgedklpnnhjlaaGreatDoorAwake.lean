/- Walks: awake of the statements about the lexer. -/
import Derived.Test.YtpgedklpnnhjlaaGreatDoorLexH
import Derived.Test.YtpgedklpnnhjlaaGreatDoorLexI
set_option maxHeartbeats 4000000
set_option maxRecDepth 100000
namespace Go.Proofs.YtpgedklpnnhjlaaGreatDoor
open Go.RowKit
/-- What the walks ask of the package-level variables. -/
structure Env (w : World) : Prop where
  signs : SignsAt w
  space : SpaceAt w
  most : MaxLenAt w
theorem lt_of_cell {w : World} {b o : Nat} {v : Value} (h : w.cell? ⟨b, o, none⟩ = some v) : b < w.heap.size := World.block_lt_of_cell? w _ h
theorem SignsAt.lt {w : World} (h : SignsAt w) : 0 < w.heap.size := by
  obtain ⟨t, fr, h⟩ := h
  exact (Array.getElem?_eq_some_iff.1 h).1
theorem MaxLenAt.below {w w' : World} (h : MaxLenAt w) (hb : Below w.heap.size w w') : MaxLenAt w' := by
  obtain ⟨m, h⟩ := h
  exact ⟨m, by rw [hb.cell (lt_of_cell h)]; exact h⟩
theorem Env.below {w w' : World} (h : Env w) (hb : Below w.heap.size w w') : Env w' :=
  ⟨h.signs.below hb h.signs.lt, h.space.below hb, h.most.below hb⟩
theorem law_word (s : ByteArray) (w : World) :
    Calls Tryz.prog 32 #[.string s] w fun e w' => e = .returned (.agg #[.int .i64 0, .string s, .int .i64 0]) ∧ Below w.heap.size w w' := by
  go_enter Tryz.func32, Tryz.ntmps32
  go_wp2_with fail
  go_returns
  exact ⟨rfl, by go_grown⟩
theorem law_sign (s : ByteArray) (w : World) :
    Calls Tryz.prog 33 #[.string s] w fun e w' => e = .returned (.agg #[.int .i64 2, .string s, .int .i64 0]) ∧ Below w.heap.size w w' := by
  go_enter Tryz.func33, Tryz.ntmps33
  go_wp2_with fail
  go_returns
  exact ⟨rfl, by go_grown⟩
def wakeSrc : List UInt8 := [116, 97, 115, 107, 32, 120, 32, 35, 32, 111, 110, 101, 10, 97, 60, 61, 49, 50]
def wakeToks : List Tok := [⟨0, [116, 97, 115, 107], 0⟩, ⟨0, [120], 5⟩, ⟨0, [97], 13⟩, ⟨2, [60, 61], 14⟩, ⟨1, [49, 50], 16⟩, ⟨3, [], 18⟩]
theorem wake1 : scan wakeSrc = .ok wakeToks := by kernel_rfl
theorem wake2 : join wakeToks = .ok [116, 97, 115, 107, 32, 120, 32, 97, 60, 61, 49, 50] := by kernel_rfl
theorem wake3 : join [⟨0, [97], 0⟩, ⟨2, [60], 0⟩, ⟨2, [61], 0⟩, ⟨1, [49], 0⟩] = .ok [97, 60, 32, 61, 49] := by kernel_rfl
theorem wake4 : scan [49, 50, 97] = .error (2, 4) := by kernel_rfl
theorem wake5 : scan [97, 32, 33, 98] = .error (2, 4) := by kernel_rfl
theorem wake6 : posVal [97, 10, 9, 98, 99] 4 = .tuple #[.int .i64 2, .int .i64 3, .int .i64 0] := by kernel_rfl
theorem wake7 : excVal [97, 10, 9, 98, 99] 4 = .tuple #[.string ⟨#[9, 98, 99, 10, 9, 32, 94]⟩, .int .i64 0] := by kernel_rfl
theorem wake8 : reservedB [117, 110, 100, 101, 114] = true := by kernel_rfl
theorem wake9 : reservedB [120] = false := by kernel_rfl
theorem wake10 : nameErr [75] = 8 := by kernel_rfl
theorem TokSl.lit (w : World) (ts : List Tok) (cs : Array Value) (n : Nat) (h : cs.toList = tokCells ts) (hn : ts.length = n) : TokSl (w.alloc (.cells cs 32)) (.slice (some ⟨w.heap.size, 0, none⟩) n n) ts := by
  subst hn
  refine .inr ⟨w.heap.size, 0, ts.length, rfl, by simp, fun k hk => ?_⟩
  have := tokCells_at ts k hk
  simp only [World.cell?, heap_alloc_new, Nat.zero_add, ← h] at *
  simpa using this
theorem awake_any (w : World) (he : Env w) :
    Calls Tryz.prog 9 #[] w fun e w' => e = .returned (.bool true) ∧ Below w.heap.size w w' := by
  replace he := Lib.hid he
  go_enter Tryz.func9, Tryz.ntmps9
  go_wp2_with fail
  refine (scan_any wakeSrc w (by decide) he.out.signs he.out.signs.lt).mono ?_
  rintro e w1 ⟨hb1, h⟩
  rw [wake1] at h
  obtain ⟨v, rfl, hown⟩ := h
  have E1 := Lib.hid (he.out.below hb1)
  have B1 := Lib.hid hb1
  clear hb1
  have hv1 := TokSl.of_owns hown
  obtain ⟨a1, c1, hv1e⟩ := hv1.len
  subst hv1e
  have hv2 := Lib.hid (fun o => hv1.below ((Below.refl _ _).alloc (Nat.le_refl _) o))
  have hlit := Lib.hid (TokSl.lit w1 wakeToks #[.int .i64 0, .string ⟨#[116, 97, 115, 107]⟩, .int .i64 0, .int .i64 0, .string ⟨#[120]⟩, .int .i64 5, .int .i64 0, .string ⟨#[97]⟩, .int .i64 13, .int .i64 2, .string ⟨#[60, 61]⟩, .int .i64 14, .int .i64 1, .string ⟨#[49, 50]⟩, .int .i64 16, .int .i64 3, .string ⟨#[]⟩, .int .i64 18] 6 rfl rfl)
  clear hown hv1
  go_wp2_with fail
  refine (same_any _ _ _ wakeToks wakeToks (hv2.out _) hlit.out (by decide) (by decide)).mono ?_
  rintro e w2 ⟨rfl, n2, hw2⟩
  rw [decide_eq_true (rfl : wakeToks = wakeToks)]
  have b2 : Below w1.heap.size w1 w2 := by rw [hw2]; exact below_drawn ((Below.refl _ _).alloc (Nat.le_refl _) _) _
  have hl2 : Hid (TokSl w2 (.slice (some ⟨w1.heap.size, 0, none⟩) 6 6) wakeToks) := by rw [hw2]; exact hlit.out
  have E2 := Lib.hid (E1.out.below b2)
  have B2 := Lib.hid (B1.out.trans (b2.mono B1.out.size))
  clear hlit hv2 hw2 b2 E1 B1
  go_wp2_with fail
  refine (join_any _ wakeToks w2 hl2.out (by decide) (by decide) E2.out.signs E2.out.signs.lt).mono ?_
  rintro e w3 ⟨rfl, b3⟩
  rw [wake2]
  simp only [joinVal]
  have E3 := Lib.hid (E2.out.below b3)
  have B3 := Lib.hid (B2.out.trans (b3.mono B2.out.size))
  clear hl2 b3 E2 B2
  go_wp2_with fail
  refine (law_word ⟨#[97]⟩ w3).mono ?_
  rintro e w4 ⟨rfl, b4⟩
  have E4 := Lib.hid (E3.out.below b4)
  have B4 := Lib.hid (B3.out.trans (b4.mono B3.out.size))
  clear b4 E3 B3
  go_wp2_with fail
  refine (law_sign ⟨#[60]⟩ w4).mono ?_
  rintro e w5 ⟨rfl, b5⟩
  have E5 := Lib.hid (E4.out.below b5)
  have B5 := Lib.hid (B4.out.trans (b5.mono B4.out.size))
  clear b5 E4 B4
  go_wp2_with fail
  refine (law_sign ⟨#[61]⟩ w5).mono ?_
  rintro e w6 ⟨rfl, b6⟩
  have E6 := Lib.hid (E5.out.below b6)
  have B6 := Lib.hid (B5.out.trans (b6.mono B5.out.size))
  have hl6 := Lib.hid (TokSl.lit w6 [⟨0, [97], 0⟩, ⟨2, [60], 0⟩, ⟨2, [61], 0⟩, ⟨1, [49], 0⟩] #[.int .i64 0, .string ⟨#[97]⟩, .int .i64 0, .int .i64 2, .string ⟨#[60]⟩, .int .i64 0, .int .i64 2, .string ⟨#[61]⟩, .int .i64 0, .int .i64 1, .string ⟨#[49]⟩, .int .i64 0] 4 rfl rfl)
  have E7 := Lib.hid (fun o => E6.out.below ((Below.refl w6.heap.size w6).alloc (Nat.le_refl _) o))
  have B7 := Lib.hid (fun o => B6.out.alloc B6.out.size o)
  clear b6 E5 B5 E6 B6
  go_wp2_with fail
  refine (join_any _ _ _ hl6.out (by decide) (by decide) (E7.out _).signs (E7.out _).signs.lt).mono ?_
  rintro e w8 ⟨rfl, b8⟩
  rw [wake3]
  simp only [joinVal]
  have E8 := Lib.hid ((E7.out _).below b8)
  have B8 := Lib.hid ((B7.out _).trans (b8.mono (B7.out _).size))
  clear b8 E7 B7 hl6
  go_wp2_with fail
  refine (scan_any [49, 50, 97] w8 (by decide) E8.out.signs E8.out.signs.lt).mono ?_
  rintro e w9 ⟨b9, h9⟩
  rw [wake4] at h9
  subst h9
  have E9 := Lib.hid (E8.out.below b9)
  have B9 := Lib.hid (B8.out.trans (b9.mono B8.out.size))
  clear b9 E8 B8
  go_wp2_with fail
  refine (scan_any [97, 32, 33, 98] w9 (by decide) E9.out.signs E9.out.signs.lt).mono ?_
  rintro e wa ⟨ba, ha⟩
  rw [wake5] at ha
  subst ha
  have Ea := Lib.hid (E9.out.below ba)
  have Ba := Lib.hid (B9.out.trans (ba.mono B9.out.size))
  clear ba E9 B9
  go_wp2_with fail
  refine (position_any [97, 10, 9, 98, 99] 4 wa (by decide)).mono ?_
  rintro e wb ⟨rfl, nb, hwb⟩
  rw [wake6]
  have bb : Below wa.heap.size wa wb := by rw [hwb]; exact below_drawn (Below.refl _ _) _
  have Eb := Lib.hid (Ea.out.below bb)
  have Bb := Lib.hid (Ba.out.trans (bb.mono Ba.out.size))
  clear hwb bb Ea Ba
  go_wp2_with fail
  refine (excerpt_any [97, 10, 9, 98, 99] 4 wb (by decide) Eb.out.most).mono ?_
  rintro e wc ⟨rfl, bc⟩
  rw [wake7]
  have Ec := Lib.hid (Eb.out.below bc)
  have Bc := Lib.hid (Bb.out.trans (bc.mono Bb.out.size))
  clear bc Eb Bb
  go_wp2_with fail
  refine (reserved_any [117, 110, 100, 101, 114] wc Ec.out.space).mono ?_
  rintro e wd ⟨rfl, bd⟩
  rw [wake8]
  have Ed := Lib.hid (Ec.out.below bd)
  have Bd := Lib.hid (Bc.out.trans (bd.mono Bc.out.size))
  clear bd Ec Bc
  go_wp2_with fail
  refine (reserved_any [120] wd Ed.out.space).mono ?_
  rintro e we ⟨rfl, be⟩
  rw [wake9]
  have Ee := Lib.hid (Ed.out.below be)
  have Be := Lib.hid (Bd.out.trans (be.mono Bd.out.size))
  clear be Ed Bd
  go_wp2_with fail
  refine (name_any [75] we (by decide) Ee.out.signs Ee.out.space).mono ?_
  rintro e wf ⟨rfl, bf⟩
  rw [wake10]
  have Ef := Lib.hid (Ee.out.below bf)
  have Bf := Lib.hid (Be.out.trans (bf.mono Be.out.size))
  clear bf Ee Be
  go_wp2_with fail
  refine (keywords_any wf Ef.out.space).mono ?_
  rintro e wg ⟨rfl, rfl⟩
  go_wp2_with fail
  go_ret
  exact ⟨rfl, Bf.out.alloc Bf.out.size _⟩
end Go.Proofs.YtpgedklpnnhjlaaGreatDoor
