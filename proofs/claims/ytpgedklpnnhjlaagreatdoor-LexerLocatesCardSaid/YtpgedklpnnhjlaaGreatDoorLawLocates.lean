/- Walks: the statement LexerLocates. -/
import Derived.Test.YtpgedklpnnhjlaaGreatDoorLawPlaces
import Derived.Test.YtpgedklpnnhjlaaGreatDoorPlainF
import Derived.Shelf.Strings.SlTrimAscii
set_option maxHeartbeats 4000000
set_option maxRecDepth 100000
namespace Go.Proofs.YtpgedklpnnhjlaaGreatDoor
open Go.RowKit
theorem split_lf (l : List UInt8) (w : World) (hl : l.length ≤ 1000000) (hm : MaxLenAt w) :
    Calls Tryz.prog 30 #[.string ⟨l.toArray⟩, .string ⟨#[10]⟩] w fun e w' => e = .returned (.slice (some ⟨w.heap.size, 0, none⟩) (linesS l).length (linesS l).length) ∧ w' = w.alloc (.cells (strVals (linesS l)).toArray 9) := by
  obtain ⟨m, hm⟩ := hm
  have hcb : Lib.countB ⟨l.toArray⟩ ⟨#[10]⟩ = l.count 10 := count_lf _ l (Nat.le_refl _)
  have hg := Tryz.strings_Split ⟨l.toArray⟩ ⟨#[10]⟩ m w (by rw [ba_size]; omega) hm (by decide)
  rw [hcb] at hg
  have hd := Lib.splitB_data ⟨#[10]⟩ 0 (l.count 10) ⟨l.toArray⟩
  have hd : (Lib.splitB ⟨#[10]⟩ 0 (l.count 10) ⟨l.toArray⟩).map (·.data.toList) = linesS l := hd.trans (split_lines _ l (Nat.le_refl _)).2
  have hlen : (linesS l).length = l.count 10 + 1 := by
    have h1 := congrArg List.length hd
    rw [List.length_map, Lib.splitB_all ⟨#[10]⟩ (by decide) 0 _ _ hcb] at h1
    exact h1.symm
  rw [map_lists hd, ← hlen] at hg
  exact hg
theorem trim_mark (m : List UInt8) (w : World) (hm : m.length ≤ 1000000) :
    Calls Tryz.prog 31 #[.string ⟨(markOf m).toArray⟩, .string ⟨#[32, 9]⟩] w fun e w' => e = .returned (.string ⟨#[]⟩) ∧ Below w.heap.size w w' := by
  have h := Any.strings_Trim_laid Tryz.lays160 (by kernel_rfl) ⟨(markOf m).toArray⟩ ⟨#[32, 9]⟩ w (by rw [ba_size]; simp only [markOf, List.length_map]; omega) (by decide) (ascii_of_all (by decide))
  refine Calls.mono (show Calls Tryz.prog 31 _ _ _ from h) ?_
  rintro e w' ⟨rfl, hb⟩
  refine ⟨?_, hb⟩
  show Ending.returned (.string ⟨(Lib.trimS (markOf m) [32, 9]).toArray⟩) = _
  rw [mark_trim]
theorem u16_bounds {a : Int} (h : (Lit.int .u16 a).wf = true) : 0 ≤ a ∧ a ≤ 65535 := by
  have h1 : IntKind.u16.min = 0 := rfl
  have h2 : IntKind.u16.max = 65535 := rfl
  simp only [Lit.wf, Bool.and_eq_true, decide_eq_true_eq] at h
  omega
theorem markOf_length (l : List UInt8) : (markOf l).length = l.length := by simp [markOf]
theorem walkLocates (s : ByteArray) (a : Int) (w : World) (hs : s.size ≤ maxLen) (ha : (Lit.int .u16 a).wf = true) (he : Env w) :
    Calls Tryz.prog 7 #[.string s, .int .u16 a] w fun e w' => e = .returned (.bool true) ∧ Below w.heap.size w w' := by
  have E0 := Lib.hid he
  have B0 := Lib.hid (Below.refl w.heap.size w)
  clear he
  obtain ⟨ha0, ha1⟩ := u16_bounds ha
  obtain ⟨n, rfl⟩ := Int.eq_ofNat_of_zero_le ha0
  clear ha ha0
  unfold maxLen at hs
  by_cases hb : 300 < s.size
  · go_enter Tryz.func7, Tryz.ntmps7
    go_wp2_with fail
    (with_reducible refine (awake_any _ E0.out).mono ?_); rintro e w1 ⟨rfl, b1⟩
    have E1 := Lib.hid (E0.out.below b1)
    have B1 := Lib.hid (B0.out.trans (b1.mono B0.out.size))
    replace b1 := Lib.hid b1
    go_wp2_with fail
    go_ret
    exact ⟨rfl, B1.out⟩
  · obtain ⟨l, rfl⟩ : ∃ l : List UInt8, s = ⟨l.toArray⟩ := ⟨s.data.toList, by simp⟩
    rw [ba_size] at hb
    have hl : l.length ≤ 300 := by omega
    clear hs
    obtain ⟨k, hk⟩ : ∃ k, k = n % (l.length + 1) := ⟨_, rfl⟩
    have hkl : k ≤ l.length := by have := Nat.mod_lt n (show 0 < l.length + 1 by omega); omega
    have hmod : (n : Int) % ((l.length : Int) + 1) = (k : Int) := by rw [hk, Int.natCast_emod, Int.natCast_add]; rfl
    have hmod2 : Int.tmod (n : Int) ((l.length : Int) + 1) = (k : Int) := by rw [hk]; exact Int.ofNat_tmod n (l.length + 1)
    have hpe : placeErr l k = 0 := by rw [placeErr, if_neg (by omega), if_neg (by omega)]
    have hpv : posVal l k = .tuple #[.int .i64 (lineOf (l.take k)), .int .i64 (colOf (l.take k)), .int .i64 0] := by rw [posVal, if_pos hpe]; rfl
    have hov := offRes_pos hkl (by omega)
    have hxv : excVal l k = .tuple #[.string ⟨(excText l k).toArray⟩, .int .i64 0] := by rw [excVal, if_pos hpe]; rfl
    have hx : excText l k = restLine (l.drop (fromOf l k)) ++ [10] ++ (markOf ((l.drop (fromOf l k)).take (k - fromOf l k)) ++ [94]) := by rw [excText]; simp
    have hlines := linesS_at _ l k (Nat.le_refl _) hkl
    have hrest := rest_from hkl
    have hno := restLine_no (l.drop (fromOf l k))
    have hcount : (excText l k).count 10 = 1 := exc_count _ _ hno
    have hcut := exc_cut _ (markOf ((l.drop (fromOf l k)).take (k - fromOf l k)) ++ [94]) hno
    rw [← hx] at hcut
    have hxl : (excText l k).length ≤ 1000 := by
      have h1 : (restLine (l.drop (fromOf l k))).length ≤ l.length := by rw [restLine, List.length_take, List.length_drop]; omega
      rw [hx, List.length_append, List.length_append, List.length_append, markOf_length, List.length_take, List.length_drop]
      simp only [List.length_cons, List.length_nil]
      omega
    have hF : fromOf l k ≤ k := by have := colOf_pos (l.take k); unfold fromOf; omega
    have hcl := colOf_le (l.take k)
    rw [List.length_take, Nat.min_eq_left hkl] at hcl
    have hml : (markOf ((l.drop (fromOf l k)).take (k - fromOf l k))).length = k - fromOf l k := by rw [markOf_length, List.length_take, List.length_drop]; omega
    have hcol : (colOf (l.take k) : Int) = ((k - fromOf l k : Nat) : Int) + 1 := by have := colOf_pos (l.take k); unfold fromOf; omega
    have hlin : (lineOf (l.take k) : Int) = ((l.take k).count 10 : Int) + 1 := by unfold lineOf; omega
    have hlin2 : lineOf (l.take k) - 1 = (l.take k).count 10 := by unfold lineOf; omega
    rw [hlin2] at hlines
    have hct : (l.take k).count 10 ≤ 300 := by have := List.count_le_length (a := (10 : UInt8)) (l := l.take k); rw [List.length_take] at this; omega
    have htx : ∀ h : k < l.length, l[k].toNat ≠ 10 → ∃ h2 : k - fromOf l k < (restLine (l.drop (fromOf l k))).length, (restLine (l.drop (fromOf l k)))[k - fromOf l k] = l[k] := by
      intro h h10
      have hst := runLen_step (p := notLf) h (by simp [notLf]; omega)
      have hlen : (restLine (l.drop (fromOf l k))).length = runLen notLf (l.drop (fromOf l k)) := by
        rw [restLine, List.length_take, Nat.min_eq_left (runLen_le _ _)]
      refine ⟨by rw [hlen, hrest, hst]; omega, ?_⟩
      simp only [restLine, List.getElem_take, List.getElem_drop]
      congr 1; omega
    -- the contracts
    have hP := fun W => position_any l k W (by omega)
    rw [hpv, hlin, hcol] at hP
    have hO := fun W (E : Env W) => offset_any l (lineOf (l.take k)) (colOf (l.take k)) W (by omega) E.most
    rw [hov, hlin, hcol] at hO
    have hX := fun W (E : Env W) => excerpt_any l k W (by omega) E.most
    rw [hxv] at hX
    have hC1 : ∀ W, Calls Tryz.prog 28 #[.string ⟨(l.take k).toArray⟩, .string ⟨#[10]⟩] W fun e w' => e = .returned (.int .i64 ((l.take k).count 10 : Nat)) ∧ w' = W := fun W => Tryz.strings_Count_one ⟨(l.take k).toArray⟩ 10 W
    have hC2 : ∀ W, Calls Tryz.prog 28 #[.string ⟨(excText l k).toArray⟩, .string ⟨#[10]⟩] W fun e w' => e = .returned (.int .i64 1) ∧ w' = W := fun W => by
      have h : Calls Tryz.prog 28 #[.string ⟨(excText l k).toArray⟩, .string ⟨#[10]⟩] W fun e w' => e = .returned (.int .i64 ((excText l k).count 10 : Nat)) ∧ w' = W := Tryz.strings_Count_one ⟨(excText l k).toArray⟩ 10 W
      rw [hcount] at h
      exact h
    have hCut : ∀ W, MaxLenAt W → Calls Tryz.prog 29 #[.string ⟨(excText l k).toArray⟩, .string ⟨#[10]⟩] W fun e w' => (∃ b, e = .returned (.tuple #[.string ⟨(restLine (l.drop (fromOf l k))).toArray⟩, .string ⟨(markOf ((l.drop (fromOf l k)).take (k - fromOf l k)) ++ [94]).toArray⟩, .bool b])) ∧ Below W.heap.size W w' := by
      rintro W ⟨m, hm⟩
      refine (Tryz.strings_Cut ⟨(excText l k).toArray⟩ ⟨#[10]⟩ m W (by rw [ba_size]; omega) hm).mono ?_
      rintro e w' ⟨rfl, hd⟩
      refine ⟨⟨(Lib.cut (ByteArray.mk (excText l k).toArray).data.toList (ByteArray.mk #[10]).data.toList).2.2, ?_⟩, below_of_some hd⟩
      have e1 : (Lib.cut (ByteArray.mk (excText l k).toArray).data.toList (ByteArray.mk #[10]).data.toList).1 = restLine (l.drop (fromOf l k)) := hcut.1
      have e2 : (Lib.cut (ByteArray.mk (excText l k).toArray).data.toList (ByteArray.mk #[10]).data.toList).2.1 = markOf ((l.drop (fromOf l k)).take (k - fromOf l k)) ++ [94] := hcut.2
      rw [e1, e2]
    have hSp := fun W (E : Env W) => split_lf l W (by omega) E.most
    have hTr := fun W => trim_mark ((l.drop (fromOf l k)).take (k - fromOf l k)) W (by rw [List.length_take, List.length_drop]; omega)
    replace hmod := hmod
    have hcell : ∀ W : World, (W.alloc (.cells (strVals (linesS l)).toArray 9)).cell? ⟨W.heap.size, (l.take k).count 10, none⟩ = some (.string ⟨(restLine (l.drop (fromOf l k))).toArray⟩) := by
      intro W
      rw [World.cell?, heap_alloc_new]
      simp [strVals, hlines]
    have hctl : (l.take k).count 10 < (linesS l).length := (List.getElem?_eq_some_iff.1 hlines).1
    have hrl : (restLine (l.drop (fromOf l k))).length ≤ 300 := by rw [restLine, List.length_take, List.length_drop]; omega
    rw [← hml] at hP hO htx
    clear hpv hov hxv hx hlines hrest hno hcount hcut hpe hlin hlin2 hcol hF hcl hk hb
    generalize restLine (l.drop (fromOf l k)) = tx at *
    generalize markOf ((l.drop (fromOf l k)).take (k - fromOf l k)) = mk at *
    have hmk : mk.length ≤ 300 := by omega
    clear hml
    generalize excText l k = x at *
    generalize hctq : (l.take k).count 10 = ct at *
    clear hctq
    generalize linesS l = L at *
    replace hP := Lib.hid hP
    replace hO := Lib.hid hO
    replace hX := Lib.hid hX
    replace hC1 := Lib.hid hC1
    replace hC2 := Lib.hid hC2
    replace hCut := Lib.hid hCut
    replace hSp := Lib.hid hSp
    replace hTr := Lib.hid hTr
    replace hcell := Lib.hid hcell
    replace htx := Lib.hid htx
    have g0 : decide ((300 : Int) < (l.length : Int)) = false := by rw [decide_eq_false_iff_not]; omega
    have g1 : ((ct : Int) + 1 != 1 + (ct : Int)) = false := by rw [bne_eq_false_iff_eq]; omega
    go_enter Tryz.func7, Tryz.ntmps7
    go_wp2_with fail
    (with_reducible refine (hP.out _).mono ?_); rintro e w1 ⟨rfl, h1⟩
    have b1 := below_of_some h1
    have E1 := Lib.hid (E0.out.below b1)
    have B1 := Lib.hid (B0.out.trans (b1.mono B0.out.size))
    clear b1 h1
    go_wp2_with fail
    (with_reducible refine (hO.out _ E1.out).mono ?_); rintro e w2 ⟨rfl, b2⟩
    have E2 := Lib.hid (E1.out.below b2)
    have B2 := Lib.hid (B1.out.trans (b2.mono B1.out.size))
    replace b2 := Lib.hid b2
    simp only [offVal]
    go_wp2_with fail
    (with_reducible refine (hX.out _ E2.out).mono ?_); rintro e w3 ⟨rfl, b3⟩
    have E3 := Lib.hid (E2.out.below b3)
    have B3 := Lib.hid (B2.out.trans (b3.mono B2.out.size))
    replace b3 := Lib.hid b3
    go_wp2_with fail
    (with_reducible refine (hC1.out _).mono ?_); rintro e w4 ⟨rfl, h4⟩
    subst h4
    go_wp2_with fail
    (with_reducible refine (hC2.out _).mono ?_); rintro e w4 ⟨rfl, h4⟩
    subst h4
    go_wp2_with fail
    (with_reducible refine (hCut.out _ E3.out.most).mono ?_); rintro e w5 ⟨⟨bo, rfl⟩, b5⟩
    have E5 := Lib.hid (E3.out.below b5)
    have B5 := Lib.hid (B3.out.trans (b5.mono B3.out.size))
    clear b5
    go_wp2_with fail
    (with_reducible refine (hSp.out _ E5.out).mono ?_); rintro e w6 ⟨rfl, h6⟩
    have c6 := hcell.out w5
    rw [← h6] at c6
    have B6 := Lib.hid (show Below w5.heap.size w5 w6 by rw [h6]; exact (Below.refl _ _).alloc (Nat.le_refl _) _)
    have E7 := Lib.hid (E5.out.below B6.out)
    have B7 := Lib.hid (B5.out.trans (B6.out.mono B5.out.size))
    clear h6
    go_wp2_with fail
    by_cases hk1 : k < l.length
    · have qa : decide ((k : Int) < (l.length : Int)) = true := by rw [decide_eq_true_eq]; omega
      have qa2 : decide (k < l.length) = true := by rw [decide_eq_true_eq]; omega
      by_cases h10 : l[k].toNat = 10
      · have qb : ((l[k].toNat : Int) != 10) = false := by rw [bne_eq_false_iff_eq]; omega
        replace h10 := Lib.hid h10
        go_quiet (fail)
        have B8 := Lib.hid (below_drawn (Below.refl w6.heap.size w6) nq)
        clear qa qb
        go_wp2_with fail
        (with_reducible refine (hTr.out _).mono ?_); rintro e w9 ⟨rfl, b9⟩
        have E9 := Lib.hid (E7.out.below (B8.out.trans (b9.mono B8.out.size)))
        have B9 := Lib.hid (B7.out.trans ((B8.out.trans (b9.mono B8.out.size)).mono B7.out.size))
        clear b9
        go_wp2_with fail
        (with_reducible refine (awake_any _ E9.out).mono ?_); rintro e wx ⟨rfl, bx⟩
        have Bx := Lib.hid (B9.out.trans (bx.mono B9.out.size))
        clear bx
        go_wp2_with fail
        go_ret
        exact ⟨rfl, Bx.out⟩
      · obtain ⟨h2, he⟩ := htx.out hk1 h10
        have qb : ((l[k].toNat : Int) != 10) = true := by rw [bne_iff_ne]; omega
        have qc : decide ((tx.length : Int) < (mk.length : Int) + 1) = false := by rw [decide_eq_false_iff_not]; omega
        have qc2 : decide (tx.length < mk.length + 1) = false := by rw [decide_eq_false_iff_not]; omega
        have q5 : (0 : Int) ≤ (mk.length : Int) := by omega
        have q6 : (mk.length : Int) < (tx.length : Int) := by omega
        have q7 : (0 : Int) ≤ (k : Int) := by omega
        have q8 : (k : Int) < (l.length : Int) := by omega
        have qd : ((tx[mk.length].toNat : Int) != (l[k].toNat : Int)) = false := by rw [he]; simp
        replace he := Lib.hid he
        replace h10 := Lib.hid h10
        go_quiet (fail)
        have B8 := Lib.hid (below_drawn (Below.refl w6.heap.size w6) nq)
        clear qa qb qc qc2 qd
        go_wp2_with fail
        (with_reducible refine (hTr.out _).mono ?_); rintro e w9 ⟨rfl, b9⟩
        have E9 := Lib.hid (E7.out.below (B8.out.trans (b9.mono B8.out.size)))
        have B9 := Lib.hid (B7.out.trans ((B8.out.trans (b9.mono B8.out.size)).mono B7.out.size))
        clear b9
        go_wp2_with fail
        (with_reducible refine (awake_any _ E9.out).mono ?_); rintro e wx ⟨rfl, bx⟩
        have Bx := Lib.hid (B9.out.trans (bx.mono B9.out.size))
        clear bx
        go_wp2_with fail
        go_ret
        exact ⟨rfl, Bx.out⟩
    · have qa : decide ((k : Int) < (l.length : Int)) = false := by rw [decide_eq_false_iff_not]; omega
      have qa2 : decide (k < l.length) = false := by rw [decide_eq_false_iff_not]; omega
      go_quiet (fail)
      have B8 := Lib.hid (below_drawn (Below.refl w6.heap.size w6) nq)
      clear qa
      go_wp2_with fail
      (with_reducible refine (hTr.out _).mono ?_); rintro e w9 ⟨rfl, b9⟩
      have E9 := Lib.hid (E7.out.below (B8.out.trans (b9.mono B8.out.size)))
      have B9 := Lib.hid (B7.out.trans ((B8.out.trans (b9.mono B8.out.size)).mono B7.out.size))
      clear b9
      go_wp2_with fail
      (with_reducible refine (awake_any _ E9.out).mono ?_); rintro e wx ⟨rfl, bx⟩
      have Bx := Lib.hid (B9.out.trans (bx.mono B9.out.size))
      clear bx
      go_wp2_with fail
      go_ret
      exact ⟨rfl, Bx.out⟩
end Go.Proofs.YtpgedklpnnhjlaaGreatDoor
