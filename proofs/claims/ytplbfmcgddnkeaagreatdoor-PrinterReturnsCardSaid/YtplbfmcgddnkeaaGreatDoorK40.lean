/- Joined: Dcl, TxP, RdP. -/
import Derived.Test.YtplbfmcgddnkeaaGreatDoorK22
import Derived.Test.YtplbfmcgddnkeaaGreatDoorK23
import Derived.Test.YtplbfmcgddnkeaaGreatDoorK17
import Derived.Test.YtplbfmcgddnkeaaGreatDoorK36
import Derived.Test.YtplbfmcgddnkeaaGreatDoorK39
import Derived.Test.YtplbfmcgddnkeaaGreatDoorK37
set_option linter.unusedVariables false
set_option linter.unusedSimpArgs false
section
set_option maxHeartbeats 4000000
set_option maxRecDepth 100000
namespace Go.Proofs.YtplbfmcgddnkeaaGreatDoor
open Go.RowKit
theorem name_err (tx : List UInt8) : nameB tx = decide ((nameErr tx : Int) = 0) := by
  unfold nameB nameErr
  cases formedB 0 tx <;> cases reservedB tx <;> simp
theorem pdeclO_any (kd : Int) (h1 : kd ≠ 1) (h5 : kd ≠ 5) (h6 : kd ≠ 6) (h7 : kd ≠ 7) (tx : List UInt8) (n a : Int) (ks : List Syn) (hM : Mod (.mk kd tx n a ks)) (q : Option Addr) (d : Nat) (w : World) (hg : SignsAt w) (hsp : SpaceAt w) :
    Calls Tryz.prog 52 #[(Value.agg #[.int .i64 kd, .string ⟨List.toArray tx⟩, .int .i64 n, .int .i64 a, .slice q ks.length d])] w (VPost w (declB (.mk kd tx n a ks))) := by
  have hN := fun W (hb : Below w.heap.size w W) => name_any tx W (show _ from hM.text) (signs_low hg hb) (hsp.below hb)
  have hI := fun W => pnat_any n W
  have e1 : (kd == 1) = false := by rw [beq_eq_false_iff_ne]; exact h1
  have e5 : (kd == 5) = false := by rw [beq_eq_false_iff_ne]; exact h5
  have e6 : (kd == 6) = false := by rw [beq_eq_false_iff_ne]; exact h6
  have e7 : (kd == 7) = false := by rw [beq_eq_false_iff_ne]; exact h7
  obtain ⟨res, hres⟩ : ∃ r, Hid (r = declB (.mk kd tx n a ks)) := ⟨_, Lib.hid rfl⟩
  rw [← hres.out]
  replace hres := Lib.hid (hres.out.trans (declB_mk.trans (by rw [if_neg h1, if_neg h5, if_neg h6, if_neg h7])))
  rw [name_err] at hres
  generalize nameErr tx = ne at hN hres
  generalize natB n = nb at hI hres
  replace hN := Lib.hid hN
  replace hI := Lib.hid hI
  replace h1 := Lib.hid h1
  replace h5 := Lib.hid h5
  replace h6 := Lib.hid h6
  replace h7 := Lib.hid h7
  clear hM hg hsp
  generalize ks.length = m at *
  have hB := boxed_below w kd tx n a q m d
  have hC := boxed_new w kd tx n a q m d
  unfold boxed at hB hC
  go_enter Tryz.func52, Tryz.ntmps52
  go_upto_region 1 with (fail)
  generalize World.alloc w _ = w1 at hB hC ⊢
  have hF := fun W (h : Below w1.heap.size w1 W) => five_low (five hC) h
  obtain ⟨c0, c1, c2, c3, c4⟩ := five hC
  replace hB := Lib.hid hB
  replace hF := Lib.hid hF
  clear hC
  go_wp2_with (first | (go_at_call 96; (with_reducible refine (hN.out _ hB.out).mono ?_); rintro e x2 ⟨rfl, b2⟩; have B2 := Lib.hid (hB.out.trans (b2.mono hB.out.size)); obtain ⟨d0, d1, d2, d3, d4⟩ := hF.out x2 b2) | (go_at_call 50; (with_reducible refine (hI.out _).mono ?_); rintro e w2 ⟨rfl, rfl⟩))
  all_goals
    go_ret
    refine ⟨ret_b ?_, B2.out⟩
    rw [hres.out]
    simp_all
theorem pdecl1_any (tx : List UInt8) (n a : Int) (ks : List Syn) (hM : Mod (.mk 1 tx n a ks)) (q : Option Addr) (d : Nat) (w : World) (hg : SignsAt w) (hsp : SpaceAt w) (hks : KidR w ks (.slice q ks.length d)) :
    Calls Tryz.prog 52 #[(Value.agg #[.int .i64 1, .string ⟨List.toArray tx⟩, .int .i64 n, .int .i64 a, .slice q ks.length d])] w (VPost w (declB (.mk 1 tx n a ks))) := by
  have hN := fun W (hb : Below w.heap.size w W) => name_any tx W (show _ from hM.text) (signs_low hg hb) (hsp.below hb)
  have hI := fun W => pnat_any n W
  have hT := fun W (hb : Below w.heap.size w W) => task_any ks q d W hM.kid hM.len (signs_low hg hb) (hsp.below hb) (hks.low hb)
  obtain ⟨res, hres⟩ : ∃ r, Hid (r = declB (.mk 1 tx n a ks)) := ⟨_, Lib.hid rfl⟩
  rw [← hres.out]
  replace hres := Lib.hid (hres.out.trans (declB_mk.trans (by rw [if_pos rfl])))
  rw [name_err] at hres
  generalize nameErr tx = ne at hN hres
  generalize natB n = nb at hI hres
  replace hN := Lib.hid hN
  replace hI := Lib.hid hI
  generalize taskB ks = tb at hT hres
  generalize hm : ks.length = m at *
  replace hT : ∀ W, Below w.heap.size w W → Calls Tryz.prog 97 #[.slice q m d] W (VPost W tb) := hT
  clear hM hg hsp hks hm
  replace hT := Lib.hid hT
  have hB := boxed_below w 1 tx n a q m d
  have hC := boxed_new w 1 tx n a q m d
  unfold boxed at hB hC
  go_enter Tryz.func52, Tryz.ntmps52
  go_upto_region 1 with (fail)
  generalize World.alloc w _ = w1 at hB hC ⊢
  have hF := fun W (h : Below w1.heap.size w1 W) => five_low (five hC) h
  obtain ⟨c0, c1, c2, c3, c4⟩ := five hC
  replace hB := Lib.hid hB
  replace hF := Lib.hid hF
  clear hC
  go_wp2_with (first | (go_at_call 96; (with_reducible refine (hN.out _ hB.out).mono ?_); rintro e x2 ⟨rfl, b2⟩; have B2 := Lib.hid (hB.out.trans (b2.mono hB.out.size)); obtain ⟨d0, d1, d2, d3, d4⟩ := hF.out x2 b2) | (go_at_call 50; (with_reducible refine (hI.out _).mono ?_); rintro e w2 ⟨rfl, rfl⟩) | (go_at_call 97; (with_reducible refine (hT.out _ B2.out).mono ?_); rintro e x3 ⟨rfl, b3⟩))
  all_goals
    go_ret
    refine ⟨ret_b ?_, by first | exact B2.out | exact B2.out.trans (b3.mono B2.out.size)⟩
    rw [hres.out]
    simp_all
theorem declB_one {k : Int} {t : List UInt8} {n p : Int} {l : List Syn} (hk : k = 5 ∨ k = 6) (h : ¬ l.length = 1) : declB (.mk k t n p l) = false := by
  rw [declB_mk]
  match l, h with
  | [], _ => rcases hk with rfl | rfl <;> simp
  | [x], h => exact absurd rfl h
  | x :: y :: l, _ => rcases hk with rfl | rfl <;> simp
theorem pdecl5_any (tx : List UInt8) (n a : Int) (ks : List Syn) (hM : Mod (.mk 5 tx n a ks)) (q : Option Addr) (d : Nat) (w : World) (hg : SignsAt w) (hsp : SpaceAt w) (hks : KidR w ks (.slice q ks.length d)) :
    Calls Tryz.prog 52 #[(Value.agg #[.int .i64 5, .string ⟨List.toArray tx⟩, .int .i64 n, .int .i64 a, .slice q ks.length d])] w (VPost w (declB (.mk 5 tx n a ks))) := by
  have hN := fun W (hb : Below w.heap.size w W) => name_any tx W (show _ from hM.text) (signs_low hg hb) (hsp.below hb)
  have hI := fun W => pnat_any n W
  by_cases hL : ks.length = 1
  · obtain ⟨x, rfl⟩ := List.length_eq_one_iff.1 hL
    obtain ⟨b, o, q', d', rfl, hc, hkk⟩ := kid_at0 hks (by simp)
    simp only [List.getElem_cons_zero] at hc hkk
    have hMx : Mod x := hM.kid x (by simp [Syn.kids])
    have hV : ∀ W (hbW : Below w.heap.size w W), Calls Tryz.prog 56 #[.int .i64 1, nodeV x q' d'] W (VPost W (oks x)) := fun W hbW => tree_valid x hMx 1 (by omega) q' d' W (signs_low hg hbW) (hsp.below hbW) (hkk.low hbW)
    have hc' := fun W (h : Below w.heap.size w W) => kidC_low hc h
    obtain ⟨res, hres⟩ : ∃ r, Hid (r = declB (.mk 5 tx n a [x])) := ⟨_, Lib.hid rfl⟩
    rw [← hres.out]
    replace hres := Lib.hid (hres.out.trans (show _ = (nameB tx && natB n && (decide (n = 0) && oks x)) from declB_mk.trans (by rw [if_neg (by decide), if_pos rfl])))
    rw [name_err] at hres
    generalize nameErr tx = ne at hN hres
    generalize natB n = nb at hI hres
    replace hN := Lib.hid hN
    replace hI := Lib.hid hI
    clear hM hg hsp hks hkk hMx hc
    generalize oks x = r0 at *
    simp only [List.length_singleton] at *
    replace hV := Lib.hid hV
    replace hc' := Lib.hid hc'
    have hB := boxed_below w 5 tx n a (some ⟨b, o, none⟩) 1 d
    have hC := boxed_new w 5 tx n a (some ⟨b, o, none⟩) 1 d
    unfold boxed at hB hC
    go_enter Tryz.func52, Tryz.ntmps52
    go_upto_region 1 with (fail)
    generalize World.alloc w _ = w1 at hB hC ⊢
    have hF := fun W (h : Below w1.heap.size w1 W) => five_low (five hC) h
    obtain ⟨c0, c1, c2, c3, c4⟩ := five hC
    replace hB := Lib.hid hB
    replace hF := Lib.hid hF
    clear hC
    go_wp2_with (first | (go_at_call 96; (with_reducible refine (hN.out _ hB.out).mono ?_); rintro e x2 ⟨rfl, b2⟩; have B2 := Lib.hid (hB.out.trans (b2.mono hB.out.size)); obtain ⟨d0, d1, d2, d3, d4⟩ := hF.out x2 b2; obtain ⟨g0, g1, g2, g3, g4⟩ := hc'.out x2 B2.out) | (go_at_call 50; (with_reducible refine (hI.out _).mono ?_); rintro e w2 ⟨rfl, rfl⟩) | (go_at_call 56; (with_reducible refine (hV.out _ B2.out).mono ?_); rintro e x3 ⟨rfl, b3⟩))
    all_goals
      go_ret
      refine ⟨ret_b ?_, by first | exact B2.out | exact B2.out.trans (b3.mono B2.out.size)⟩
      rw [hres.out]
      simp_all [beqI]
  · have hno := declB_one (t := tx) (n := n) (p := a) (Or.inl rfl) hL
    obtain ⟨res, hres⟩ : ∃ r, Hid (r = declB (.mk 5 tx n a ks)) := ⟨_, Lib.hid rfl⟩
    rw [← hres.out]
    replace hres := Lib.hid (hres.out.trans hno)
    clear hno
    generalize nameErr tx = ne at hN
    generalize natB n = nb at hI
    replace hN := Lib.hid hN
    replace hI := Lib.hid hI
    replace hL := show ¬ (ks.length : Int) = 1 by omega
    clear hM hg hsp hks
    generalize ks.length = m at *
    have hB := boxed_below w 5 tx n a q m d
    have hC := boxed_new w 5 tx n a q m d
    unfold boxed at hB hC
    go_enter Tryz.func52, Tryz.ntmps52
    go_upto_region 1 with (fail)
    generalize World.alloc w _ = w1 at hB hC ⊢
    have hF := fun W (h : Below w1.heap.size w1 W) => five_low (five hC) h
    obtain ⟨c0, c1, c2, c3, c4⟩ := five hC
    replace hB := Lib.hid hB
    replace hF := Lib.hid hF
    clear hC
    go_wp2_with (first | (go_at_call 96; (with_reducible refine (hN.out _ hB.out).mono ?_); rintro e x2 ⟨rfl, b2⟩; have B2 := Lib.hid (hB.out.trans (b2.mono hB.out.size)); obtain ⟨d0, d1, d2, d3, d4⟩ := hF.out x2 b2) | (go_at_call 50; (with_reducible refine (hI.out _).mono ?_); rintro e w2 ⟨rfl, rfl⟩))
    all_goals
      go_ret
      refine ⟨ret_b ?_, B2.out⟩
      rw [hres.out]
theorem pdecl6_any (tx : List UInt8) (n a : Int) (ks : List Syn) (hM : Mod (.mk 6 tx n a ks)) (q : Option Addr) (d : Nat) (w : World) (hg : SignsAt w) (hsp : SpaceAt w) (hks : KidR w ks (.slice q ks.length d)) :
    Calls Tryz.prog 52 #[(Value.agg #[.int .i64 6, .string ⟨List.toArray tx⟩, .int .i64 n, .int .i64 a, .slice q ks.length d])] w (VPost w (declB (.mk 6 tx n a ks))) := by
  have hN := fun W (hb : Below w.heap.size w W) => name_any tx W (show _ from hM.text) (signs_low hg hb) (hsp.below hb)
  have hI := fun W => pnat_any n W
  by_cases hL : ks.length = 1
  · obtain ⟨x, rfl⟩ := List.length_eq_one_iff.1 hL
    obtain ⟨b, o, q', d', rfl, hc, hkk⟩ := kid_at0 hks (by simp)
    simp only [List.getElem_cons_zero] at hc hkk
    have hMx : Mod x := hM.kid x (by simp [Syn.kids])
    have hV : ∀ W (hbW : Below w.heap.size w W), Calls Tryz.prog 56 #[.int .i64 2, nodeV x q' d'] W (VPost W (okf x)) := fun W hbW => tree_valid x hMx 2 (by omega) q' d' W (signs_low hg hbW) (hsp.below hbW) (hkk.low hbW)
    have hc' := fun W (h : Below w.heap.size w W) => kidC_low hc h
    obtain ⟨res, hres⟩ : ∃ r, Hid (r = declB (.mk 6 tx n a [x])) := ⟨_, Lib.hid rfl⟩
    rw [← hres.out]
    replace hres := Lib.hid (hres.out.trans (show _ = (nameB tx && natB n && (decide (n = 0) && okf x)) from declB_mk.trans (by rw [if_neg (by decide), if_neg (by decide), if_pos rfl])))
    rw [name_err] at hres
    generalize nameErr tx = ne at hN hres
    generalize natB n = nb at hI hres
    replace hN := Lib.hid hN
    replace hI := Lib.hid hI
    clear hM hg hsp hks hkk hMx hc
    generalize okf x = r0 at *
    simp only [List.length_singleton] at *
    replace hV := Lib.hid hV
    replace hc' := Lib.hid hc'
    have hB := boxed_below w 6 tx n a (some ⟨b, o, none⟩) 1 d
    have hC := boxed_new w 6 tx n a (some ⟨b, o, none⟩) 1 d
    unfold boxed at hB hC
    go_enter Tryz.func52, Tryz.ntmps52
    go_upto_region 1 with (fail)
    generalize World.alloc w _ = w1 at hB hC ⊢
    have hF := fun W (h : Below w1.heap.size w1 W) => five_low (five hC) h
    obtain ⟨c0, c1, c2, c3, c4⟩ := five hC
    replace hB := Lib.hid hB
    replace hF := Lib.hid hF
    clear hC
    go_wp2_with (first | (go_at_call 96; (with_reducible refine (hN.out _ hB.out).mono ?_); rintro e x2 ⟨rfl, b2⟩; have B2 := Lib.hid (hB.out.trans (b2.mono hB.out.size)); obtain ⟨d0, d1, d2, d3, d4⟩ := hF.out x2 b2; obtain ⟨g0, g1, g2, g3, g4⟩ := hc'.out x2 B2.out) | (go_at_call 50; (with_reducible refine (hI.out _).mono ?_); rintro e w2 ⟨rfl, rfl⟩) | (go_at_call 56; (with_reducible refine (hV.out _ B2.out).mono ?_); rintro e x3 ⟨rfl, b3⟩))
    all_goals
      go_ret
      refine ⟨ret_b ?_, by first | exact B2.out | exact B2.out.trans (b3.mono B2.out.size)⟩
      rw [hres.out]
      simp_all [beqI]
  · have hno := declB_one (t := tx) (n := n) (p := a) (Or.inr rfl) hL
    obtain ⟨res, hres⟩ : ∃ r, Hid (r = declB (.mk 6 tx n a ks)) := ⟨_, Lib.hid rfl⟩
    rw [← hres.out]
    replace hres := Lib.hid (hres.out.trans hno)
    clear hno
    generalize nameErr tx = ne at hN
    generalize natB n = nb at hI
    replace hN := Lib.hid hN
    replace hI := Lib.hid hI
    replace hL := show ¬ (ks.length : Int) = 1 by omega
    clear hM hg hsp hks
    generalize ks.length = m at *
    have hB := boxed_below w 6 tx n a q m d
    have hC := boxed_new w 6 tx n a q m d
    unfold boxed at hB hC
    go_enter Tryz.func52, Tryz.ntmps52
    go_upto_region 1 with (fail)
    generalize World.alloc w _ = w1 at hB hC ⊢
    have hF := fun W (h : Below w1.heap.size w1 W) => five_low (five hC) h
    obtain ⟨c0, c1, c2, c3, c4⟩ := five hC
    replace hB := Lib.hid hB
    replace hF := Lib.hid hF
    clear hC
    go_wp2_with (first | (go_at_call 96; (with_reducible refine (hN.out _ hB.out).mono ?_); rintro e x2 ⟨rfl, b2⟩; have B2 := Lib.hid (hB.out.trans (b2.mono hB.out.size)); obtain ⟨d0, d1, d2, d3, d4⟩ := hF.out x2 b2) | (go_at_call 50; (with_reducible refine (hI.out _).mono ?_); rintro e w2 ⟨rfl, rfl⟩))
    all_goals
      go_ret
      refine ⟨ret_b ?_, B2.out⟩
      rw [hres.out]
theorem declB_two {t : List UInt8} {n p : Int} {l : List Syn} : declB (.mk 7 t n p l) = (nameB t && natB n && (decide ((l.length : Int) = 2) && l.all isNm)) := by
  rw [declB_mk, if_neg (by decide), if_neg (by decide), if_neg (by decide), if_pos rfl]
  match l with
  | [] => rfl
  | [x] => rfl
  | [x, y] => simp
  | x :: y :: z :: l =>
    have : ¬ ((x :: y :: z :: l).length : Int) = 2 := by simp only [List.length_cons]; omega
    rw [decide_eq_false this]; rfl
theorem pdecl7_any (tx : List UInt8) (n a : Int) (ks : List Syn) (hM : Mod (.mk 7 tx n a ks)) (q : Option Addr) (d : Nat) (w : World) (hg : SignsAt w) (hsp : SpaceAt w) (hks : KidR w ks (.slice q ks.length d)) :
    Calls Tryz.prog 52 #[(Value.agg #[.int .i64 7, .string ⟨List.toArray tx⟩, .int .i64 n, .int .i64 a, .slice q ks.length d])] w (VPost w (declB (.mk 7 tx n a ks))) := by
  have hN := fun W (hb : Below w.heap.size w W) => name_any tx W (show _ from hM.text) (signs_low hg hb) (hsp.below hb)
  have hI := fun W => pnat_any n W
  have hE := fun W (hb : Below w.heap.size w W) => every_nam ks q d isNm W (hks.low hb) hM.len (fun i hi q' d' W' hb' hk' => prname_any _ _ _ _ q' (ks[i]).kids d' W' (hM.kid _ (List.getElem_mem hi)).text (signs_low hg (hb.trans (hb'.mono hb.size))) (hsp.below (hb.trans (hb'.mono hb.size))))
  obtain ⟨res, hres⟩ : ∃ r, Hid (r = declB (.mk 7 tx n a ks)) := ⟨_, Lib.hid rfl⟩
  rw [← hres.out]
  replace hres := Lib.hid (hres.out.trans (declB_two))
  rw [name_err] at hres
  generalize nameErr tx = ne at hN hres
  generalize natB n = nb at hI hres
  replace hN := Lib.hid hN
  replace hI := Lib.hid hI
  generalize ks.all isNm = tb at hE hres
  generalize hm : ks.length = m at *
  replace hE : ∀ W, Below w.heap.size w W → Calls Tryz.prog 51 #[.slice q m d, .func (.func 98) #[] #[]] W (VPost W tb) := hE
  clear hM hg hsp hks hm
  replace hE := Lib.hid hE
  have hB := boxed_below w 7 tx n a q m d
  have hC := boxed_new w 7 tx n a q m d
  unfold boxed at hB hC
  go_enter Tryz.func52, Tryz.ntmps52
  go_upto_region 1 with (fail)
  generalize World.alloc w _ = w1 at hB hC ⊢
  have hF := fun W (h : Below w1.heap.size w1 W) => five_low (five hC) h
  obtain ⟨c0, c1, c2, c3, c4⟩ := five hC
  replace hB := Lib.hid hB
  replace hF := Lib.hid hF
  clear hC
  go_wp2_with (first | (go_at_call 96; (with_reducible refine (hN.out _ hB.out).mono ?_); rintro e x2 ⟨rfl, b2⟩; have B2 := Lib.hid (hB.out.trans (b2.mono hB.out.size)); obtain ⟨d0, d1, d2, d3, d4⟩ := hF.out x2 b2) | (go_at_call 50; (with_reducible refine (hI.out _).mono ?_); rintro e w2 ⟨rfl, rfl⟩) | (go_at_call 51; (with_reducible refine (hE.out _ B2.out).mono ?_); rintro e x3 ⟨rfl, b3⟩))
  all_goals
    go_ret
    refine ⟨ret_b ?_, by first | exact B2.out | exact B2.out.trans (b3.mono B2.out.size)⟩
    rw [hres.out]
    simp_all [beqI]
theorem pdecl_any (t : Syn) (hM : Mod t) (q : Option Addr) (d : Nat) (w : World) (hg : SignsAt w) (hsp : SpaceAt w) (hks : KidR w t.kids (.slice q t.kids.length d)) :
    Calls Tryz.prog 52 #[nodeV t q d] w (VPost w (declB t)) := by
  obtain ⟨k, tx, n, a, ks⟩ := t
  by_cases h1 : k = 1
  · subst h1; exact pdecl1_any tx n a ks hM q d w hg hsp hks
  by_cases h5 : k = 5
  · subst h5; exact pdecl5_any tx n a ks hM q d w hg hsp hks
  by_cases h6 : k = 6
  · subst h6; exact pdecl6_any tx n a ks hM q d w hg hsp hks
  by_cases h7 : k = 7
  · subst h7; exact pdecl7_any tx n a ks hM q d w hg hsp hks
  · exact pdeclO_any k h1 h5 h6 h7 tx n a ks hM q d w hg hsp
end Go.Proofs.YtplbfmcgddnkeaaGreatDoor
end
section
set_option maxHeartbeats 4000000
set_option maxRecDepth 100000
namespace Go.Proofs.YtplbfmcgddnkeaaGreatDoor
open Go.RowKit
theorem five_under {w w' : World} {n B : Nat} {v0 v1 v2 v3 v4 : Value} (h : Five w B v0 v1 v2 v3 v4) (hb : Below n w w') (hB : B < n) : Five w' B v0 v1 v2 v3 v4 :=
  ⟨(hb.cell hB).trans h.1, (hb.cell hB).trans h.2.1, (hb.cell hB).trans h.2.2.1, (hb.cell hB).trans h.2.2.2.1, (hb.cell hB).trans h.2.2.2.2⟩
abbrev pProc : List UInt8 := [112, 114, 111, 99, 101, 115, 115, 101, 115, 32]
theorem wprog_eq (k : Int) (tx : List UInt8) (n a : Int) (ks : List Syn) : wprog (.mk k tx n a ks) = (pProc ++ (dec n.toNat ++ [59, 10])) ++ ks.flatMap wdecl := by
  simp [wprog, Syn.num, Syn.kids]
theorem ptext_Parse (t : Syn) (hM : Mod t) (q : Option Addr) (d : Nat) (w : World) (hE : PEnv w) (ht : TabW w) (hks : KidR w t.kids (.slice q t.kids.length d)) (hbig : progB t = true → (wprog t).length ≤ 140737488355328) :
    Calls Tryz.prog 31 #[.int .i64 3, nodeV t q d, .func (.func 19) #[] #[]] w (TPost w (printO (progB t) (wprog t) (parseO (wprog t) progR))) := by
  have hR : (wprog t).length ≤ 65536 → ∀ W, Below w.heap.size w W → Calls Tryz.prog 19 #[.string ⟨(wprog t).toArray⟩] W fun e w' => Below W.heap.size W w' ∧ ∃ (kd n a z : Int) (tx : List UInt8) (p : Option Addr) (m c : Nat), e = .returned (.tuple #[(Value.agg #[.int .i64 kd, .string ⟨List.toArray tx⟩, .int .i64 n, .int .i64 a, .slice p m c]), .int .i64 z, .int .i64 (errO (parseO (wprog t) progR))]) :=
    fun hl W hb => (fullParse_any _ W (by omega) (hE.below hb)).mono fun e w' h => pres_norm h
  have hne := wprog_ne t
  obtain ⟨kd, tx, n, a, ks⟩ := t
  replace hks : KidR w ks (.slice q ks.length d) := hks
  show Calls Tryz.prog 31 #[.int .i64 3, (Value.agg #[.int .i64 kd, .string ⟨List.toArray tx⟩, .int .i64 n, .int .i64 a, .slice q ks.length d]), .func (.func 19) #[] #[]] w _
  have hEv := fun W (hb : Below w.heap.size w W) => every_decl ks q d declB W (hks.low hb) hM.len (fun i hi q' d' W' hb' hk' => pdecl_any ks[i] (hM.kid _ (List.getElem_mem hi)) q' d' W' (signs_low hE.signs (hb.trans (hb'.mono hb.size))) (hE.space.below (hb.trans (hb'.mono hb.size))) hk')
  have hD : (∀ x ∈ ks, declB x = true) → ∀ i (hi : i < ks.length) q' d', KidR w ks[i].kids (.slice q' ks[i].kids.length d') → ∀ B b l W w1, WSt w w1 B b l W → l.length + (wdecl ks[i]).length ≤ 140737488355328 →
      Calls Tryz.prog 55 #[.pointer (some ⟨b, 0, none⟩), nodeV ks[i] q' d'] W fun e w' => e = .returned (.tuple #[]) ∧ WSt w w1 B b (l ++ wdecl ks[i]) w' :=
    fun ho i hi q' d' hkk B b l W w1 hst hl => wdecl_any ht B b ks[i] (hM.kid _ (List.getElem_mem hi)) (ho _ (List.getElem_mem hi)) q' d' hkk w1 l W hst hl
  have hI := fun W => pnat_any n W
  generalize parseO (wprog (.mk kd tx n a ks)) progR = o at *
  obtain ⟨res, hres⟩ : ∃ r, Hid (r = printO (progB (.mk kd tx n a ks)) (wprog (.mk kd tx n a ks)) o) := ⟨_, Lib.hid rfl⟩
  rw [← hres.out]
  obtain ⟨er, her⟩ : ∃ r, Hid (r = errO o) := ⟨_, Lib.hid rfl⟩
  rw [← her.out] at hR
  replace hres := Lib.hid (hres.out.trans (show _ = (if (decide (kd = 0) && (tx == []) && natB n && ks.all declB) then if 65536 < (wprog (.mk kd tx n a ks)).length then (([] : List UInt8), 13) else if errO o = 0 then (wprog (.mk kd tx n a ks), 0) else ([], errO o) else ([], 3)) from rfl))
  rw [← her.out] at hres
  clear her
  have hmm : ks.length ≤ 100000 := hM.len
  have hTb : natB n = true → ∀ W, Below w.heap.size w W → Calls Tryz.prog 54 #[.int .i64 n] W fun e w' => e = .returned (.string ⟨(dec n.toNat).toArray⟩) ∧ Below W.heap.size W w' := fun hn W hb => itoa_any hn W (tab_low ht hb)
  have hbg : (decide (kd = 0) && (tx == []) && natB n && ks.all declB) = true → (wprog (.mk kd tx n a ks)).length ≤ 140737488355328 := hbig
  have hwq := wprog_eq kd tx n a ks
  generalize wprog (.mk kd tx n a ks) = txt at *
  clear hM hE ht hbig
  obtain ⟨pr, hpr⟩ : ∃ r, Hid (r = (progB (.mk kd tx n a ks))) := ⟨_, Lib.hid rfl⟩
  clear hpr
  replace hR := Lib.hid hR
  replace hbg := Lib.hid hbg
  replace hD := Lib.hid hD
  replace hTb := Lib.hid hTb
  replace hwq := Lib.hid hwq
  replace hks := Lib.hid hks
  replace hne := Lib.hid hne
  have hB := boxed_below w kd tx n a q ks.length d
  have hC := five (boxed_new w kd tx n a q ks.length d)
  have hsz : (boxed w kd tx n a q ks.length d).heap.size = w.heap.size + 1 := World.size_alloc ..
  have hw := wr_new (boxed w kd tx n a q ks.length d)
  have hB2 : Below w.heap.size w ((boxed w kd tx n a q ks.length d).alloc zWr) := hB.alloc (by rw [hsz]; omega) _
  have hC2 := five_low hC ((Below.refl _ _).alloc (Nat.le_refl _) zWr)
  rw [hsz] at hw
  clear hB hC hsz
  unfold boxed zWr at hw hB2 hC2
  go_enter Tryz.func31, Tryz.ntmps31
  go_upto_region 3 with (fail)
  generalize World.alloc (World.alloc w _) _ = w1 at hw hB2 hC2 ⊢
  have hBb : w.heap.size < w.heap.size + 1 := Nat.lt_succ_self _
  generalize hbq : w.heap.size + 1 = b at hw hBb ⊢
  clear hbq
  have hF := fun W (h : Below w1.heap.size w1 W) => five_low hC2 h
  obtain ⟨c0, c1, c2, c3, c4⟩ := hC2
  replace hw := Lib.hid hw
  replace hB2 := Lib.hid hB2
  replace hF := Lib.hid hF
  replace hI := Lib.hid hI
  have hbad : Hid ((decide (kd = 0) && (tx == []) && natB n && ks.all declB) = false) → Hid (res = ([], 3)) := fun h => Lib.hid (by rw [hres.out, h.out]; rfl)
  rcases Decidable.em (¬ kd = 0) with h0 | h0
  · have h0b : (kd == 0) = false := by rw [beq_eq_false_iff_ne]; exact h0
    replace hbad := hbad (Lib.hid (by simp [h0]))
    replace h0 := Lib.hid h0
    go_wp2_with fail
    all_goals
      go_ret2
      refine ⟨?_, hB2.out⟩
      rw [hbad.out]
      rfl
  replace h0 := Decidable.not_not.1 h0
  subst h0
  rcases Decidable.em (¬ tx = []) with h1 | h1
  · have h1b : (tx == []) = false := by rw [beq_eq_false_iff_ne]; exact h1
    replace hbad := hbad (Lib.hid (by simp [h1]))
    replace hres := Lib.hid hres
    go_wp2_with fail
    all_goals
      go_ret2
      refine ⟨?_, hB2.out⟩
      rw [hbad.out]
      rfl
  replace h1 := Decidable.not_not.1 h1
  subst h1
  cases hn : natB n with
  | false =>
    rw [hn] at hI
    replace hbad := hbad (Lib.hid (by simp [hn]))
    replace hn := Lib.hid hn
    go_wp2_with (first | (go_at_call 50; (with_reducible refine (hI.out _).mono ?_); rintro e w2 ⟨rfl, rfl⟩))
    all_goals
      go_ret2
      refine ⟨?_, hB2.out⟩
      rw [hbad.out]
      rfl
  | true =>
  rw [hn] at hI
  cases ha : ks.all declB with
  | false =>
    simp only [ha] at hEv
    replace hEv := Lib.hid hEv
    replace hbad := hbad (Lib.hid (by simp [ha]))
    replace hn := Lib.hid hn
    replace ha := Lib.hid ha
    go_wp2_with (first | (go_at_call 50; (with_reducible refine (hI.out _).mono ?_); rintro e w2 ⟨rfl, rfl⟩) | (go_at_call 51; (with_reducible refine (hEv.out _ hB2.out).mono ?_); rintro e x2 ⟨rfl, b2⟩))
    all_goals
      go_ret2
      refine ⟨?_, hB2.out.trans (b2.mono hB2.out.size)⟩
      rw [hbad.out]
      rfl
  | true =>
  simp only [ha] at hEv
  have hall : (decide ((0 : Int) = 0) && (([] : List UInt8) == []) && natB n && ks.all declB) = true := by rw [hn, ha]; rfl
  replace hEv := Lib.hid hEv
  have hD2 := Lib.hid (hD.out (List.all_eq_true.1 ha))
  have hT := Lib.hid (hTb.out hn)
  have hbl := hbg.out hall
  have hwq2 := hwq.out
  replace hres := Lib.hid (hres.out.trans (if_pos hall))
  clear hbad hD hTb hbg hwq hall
  replace hn := Lib.hid hn
  replace ha := Lib.hid ha
  go_wp2_with (first | (go_at_call 50; (with_reducible refine (hI.out _).mono ?_); rintro e w2 ⟨rfl, rfl⟩) | (go_at_call 51; (with_reducible refine (hEv.out _ hB2.out).mono ?_); rintro e x2 ⟨rfl, b2⟩; obtain ⟨d0, d1, d2, d3, d4⟩ := hF.out x2 b2; have hB3 := Lib.hid (hB2.out.trans (b2.mono hB2.out.size))))
  have hst := WSt.begin (w0 := w) (wr_low hw.out b2) hB3.out (Nat.le_of_lt hBb) (Nat.le_of_lt (wr_lt (wr_low hw.out b2)).2)
  have hF2 := fun W (h : Below b x2 W) => five_under ⟨d0, d1, d2, d3, d4⟩ h hBb
  replace hF2 := Lib.hid hF2
  replace hst := Lib.hid hst
  go_wp2_with (first | (go_at_call 54; (with_reducible refine (hT.out _ hB3.out).mono ?_); rintro e x3 ⟨rfl, b3⟩))
  have hst3 := hst.out.step b3
  have hA := hst3.add [pProc, dec n.toNat, [59, 10]] (by simp) (by
    have := hbl; rw [hwq2] at this
    simp only [List.length_append, List.length_cons, List.length_nil] at this
    simp; omega)
  simp only [List.flatten_cons, List.flatten_nil, List.append_nil, List.map_cons, List.map_nil, List.length_cons, List.length_nil, List.nil_append] at hA
  obtain ⟨L6, hL6⟩ : ∃ z, Hid (z = pProc ++ (dec n.toNat ++ [59, 10])) := ⟨_, Lib.hid rfl⟩
  rw [← hL6.out] at hA hwq2
  replace hA := Lib.hid hA
  replace hst3 := Lib.hid hst3
  go_wp2_with (first | (go_at_call 53; (with_reducible refine (hA.out).mono ?_); rintro e x4 ⟨rfl, hst4⟩; obtain ⟨e0, e1, e2, e3, e4⟩ := hF2.out x4 hst4.rel.below; replace hst4 := Lib.hid hst4))
  clear c0 c1 c2 c3 c4 d0 d1 d2 d3 d4 hA hst3 hT hI hEv hF hw
  have hm0 : (0 : Int) ≤ ks.length := by omega
  have hm1 : (ks.length : Int) ≤ 100000 := by omega
  have hlow : w.heap.size ≤ b := Nat.le_of_lt hBb
  replace hwq2 := Lib.hid hwq2
  go_wp2_with fail
  go_loopw [10, 44] (fun _ s44 wr => (∃ j : Nat, j ≤ ks.length ∧ s44 = .int .i64 j ∧ Hid (WSt w x2 b b (L6 ++ (ks.take j).flatMap wdecl) wr))) (fun _ s44 _ => ks.length - (intOf s44).toNat)
  case atStart => exact ⟨0, by omega, rfl, Lib.hid (by simpa using hst.out.call hst4.out)⟩
  case round =>
    obtain ⟨j, hj, rfl, hsj⟩ := hrel
    obtain ⟨pt, hpt⟩ : ∃ z, Hid (z = L6 ++ (ks.take j).flatMap wdecl) := ⟨_, Lib.hid rfl⟩
    rw [← hpt.out] at hsj
    by_cases hlt : j < ks.length
    · obtain ⟨bb, o', q1, d1, rfl, hc, hkk⟩ := hks.out.get j hlt
      obtain ⟨c0, c1, c2, c3, c4⟩ := kidC_low hc hsj.out.tree
      have hCl := fun l W (h : WSt w x2 b b l W) => hD2.out j hlt q1 d1 hkk b b l W x2 h
      have htk : ks.take (j + 1) = ks.take j ++ [ks[j]] := List.take_succ_eq_append_getElem hlt
      have hfl : L6 ++ (ks.take (j + 1)).flatMap wdecl = pt ++ wdecl ks[j] := by rw [htk, List.flatMap_append, List.flatMap_cons, List.flatMap_nil, List.append_nil, hpt.out, List.append_assoc]
      have hle : pt.length + (wdecl ks[j]).length ≤ 140737488355328 := by
        have h1 := flat_mono (f := wdecl) ks (j + 1)
        have h2 := congrArg List.length hfl
        have h3 := congrArg List.length hwq2.out
        simp only [List.length_append] at h2 h3
        omega
      replace hfl := Lib.hid hfl
      clear htk
      generalize ks[j] = z at c0 c1 c2 c3 c4 hCl hfl hle hc hkk
      generalize wdecl z = wz at hCl hfl hle
      replace hCl := Lib.hid hCl
      clear hc hkk
      have hnew := fun (v0 v1 v2 v3 v4 : Value) => heap_alloc_new wr (.cells #[v0, v1, v2, v3, v4] 24)
      have hal := fun (v0 v1 v2 v3 v4 : Value) => hsj.out.step ((Below.refl _ _).alloc (Nat.le_refl _) (.cells #[v0, v1, v2, v3, v4] 24))
      have hbw : b < wr.heap.size := (wr_lt hsj.out.wr).2
      go_upto_region 9 with (fail)
      have hst7 := hal (.int .i64 z.kind) (.string ⟨z.text.toArray⟩) (.int .i64 z.num) (.int .i64 z.pos) (.slice q1 z.kids.length d1)
      have hFr2 : Fr1 b (wr.alloc (.cells #[.int .i64 z.kind, .string ⟨z.text.toArray⟩, .int .i64 z.num, .int .i64 z.pos, .slice q1 z.kids.length d1] 24)) wr.heap.size z.kind z.text z.num z.pos q1 z.kids.length d1 := ⟨hnew _ _ _ _ _, hbw⟩
      generalize World.alloc wr _ = w7 at hst7 hFr2 ⊢
      generalize wr.heap.size = s7 at hFr2 ⊢
      clear c0 c1 c2 c3 c4 hnew hal hbw hsj
      obtain ⟨f0, f1, f2, f3, f4⟩ := hFr2.five (WRel.refl b b w7)
      replace hst7 := Lib.hid hst7
      go_wp2_with (first | (go_at_call 55; (with_reducible refine (hCl.out _ _ hst7.out hle).mono ?_); rintro e x9 ⟨rfl, hst9⟩))
      replace hst9 := Lib.hid hst9
      go_roundw
      case rel => exact ⟨j + 1, by omega, by go_num, Lib.hid (by rw [hfl.out]; exact hst9.out)⟩
      case measure => simp [intOf]; omega
    · have hpe : pt = txt := by rw [hpt.out, List.take_of_length_le (by omega)]; exact hwq2.out.symm
      rw [hpe] at hsj
      have hst3 := hsj.out
      have hT := wrtext_of hst3.wr hne.out
      have hL := wr_len b b txt wr hT
      have hB3 := Lib.hid hst3.tree
      have hbB := hst3.low
      replace hst3 := Lib.hid hst3
      clear hsj hpt hpe hD2 hwq2 hst4 hst
      by_cases hl : 65536 < txt.length
      · replace hres := Lib.hid (hres.out.trans (if_pos hl))
        have hli : (65536 : Int) < txt.length := by omega
        replace hL := Lib.hid hL
        go_wp2_with (first | (go_at_call 58; (with_reducible refine (hL.out).mono ?_); rintro e w' ⟨rfl, rfl⟩))
        all_goals
          refine bodyPost_ret (v := .tuple #[.string ⟨#[]⟩, .int .i64 13]) (by simp [results, Tryz.results31, go_sem]) rfl ⟨?_, hB3.out⟩
          rw [hres.out]
          rfl
      · replace hres := Lib.hid (hres.out.trans (if_neg hl))
        have hli : ¬ (65536 : Int) < txt.length := by omega
        have hS1 := Lib.hid (wr_string b b txt wr hT hne.out)
        replace hL := Lib.hid hL
        replace hT := Lib.hid hT
        have hRl := Lib.hid (hR.out (by omega))
        go_wp2_with (first | (go_at_call 58; (with_reducible refine (hL.out).mono ?_); rintro e w' ⟨rfl, rfl⟩) | (go_at_call 59; (with_reducible refine (hS1.out).mono ?_); rintro e x4 ⟨rfl, hT4, b4⟩; have hB4 := Lib.hid (hB3.out.trans (b4.mono hbB))))
        by_cases her : er = 0
        · have hei : (er : Int) = 0 := by omega
          replace hres := Lib.hid (hres.out.trans (if_pos her))
          clear her
          go_wp2_with (first | (go_at_call 19; (with_reducible refine (hRl.out _ hB4.out).mono ?_); rintro e x5 ⟨b5, kd', n', a', z', tx', p', m', c', rfl⟩; have hB5 := Lib.hid (hB4.out.trans (b5.mono hB4.out.size)); have hS2 := Lib.hid (fun W (h : Below x5.heap.size x5 W) => wr_string b b txt W ((hT4.low b5).low h) hne.out)) | (go_at_call 59; (with_reducible refine (hS2.out _ ((Below.refl _ _).alloc (Nat.le_refl _) _)).mono ?_); rintro e x6 ⟨rfl, hT6, b6⟩))
          all_goals
            refine bodyPost_ret (v := .tuple #[.string ⟨txt.toArray⟩, .int .i64 0]) (by simp [results, Tryz.results31, go_sem]) rfl ⟨?_, (hB5.out.alloc hB5.out.size _).trans (b6.mono hbB)⟩
            rw [hres.out]
            rfl
        · have hei : ¬ (er : Int) = 0 := by omega
          replace hres := Lib.hid (hres.out.trans (if_neg her))
          go_wp2_with (first | (go_at_call 19; (with_reducible refine (hRl.out _ hB4.out).mono ?_); rintro e x5 ⟨b5, kd', n', a', z', tx', p', m', c', rfl⟩; have hB5 := Lib.hid (hB4.out.trans (b5.mono hB4.out.size))))
          all_goals
            refine bodyPost_ret (v := .tuple #[.string ⟨#[]⟩, .int .i64 er]) (by simp [results, Tryz.results31, go_sem]) rfl ⟨?_, hB5.out.alloc hB5.out.size _⟩
            rw [hres.out]
theorem pFormat_any (t : Syn) (hM : Mod t) (q : Option Addr) (d : Nat) (w : World) (hE : PEnv w) (ht : TabW w) (hks : KidR w t.kids (.slice q t.kids.length d)) (hbig : progB t = true → (wprog t).length ≤ 140737488355328) :
    Calls Tryz.prog 26 #[nodeV t q d] w (TPost w (printO (progB t) (wprog t) (parseO (wprog t) progR))) := by
  have hT := fun W (hb : Below w.heap.size w W) => ptext_Parse t hM q d W (hE.below hb) (tab_low ht hb) (hks.low hb) hbig
  generalize printO (progB t) (wprog t) (parseO (wprog t) progR) = res at *
  obtain ⟨kd, tx, n, a, ks⟩ := t
  replace hT : ∀ W (hb : Below w.heap.size w W), Calls Tryz.prog 31 #[.int .i64 3, (Value.agg #[.int .i64 kd, .string ⟨List.toArray tx⟩, .int .i64 n, .int .i64 a, .slice q ks.length d]), .func (.func 19) #[] #[]] W (TPost W res) := hT
  show Calls Tryz.prog 26 #[(Value.agg #[.int .i64 kd, .string ⟨List.toArray tx⟩, .int .i64 n, .int .i64 a, .slice q ks.length d])] w (TPost w res)
  clear hbig hks hM hE ht
  generalize ks.length = m at *
  replace hT := Lib.hid hT
  have hB := boxed_below w kd tx n a q m d
  have hC := boxed_new w kd tx n a q m d
  unfold boxed at hB hC
  go_enter Tryz.func26, Tryz.ntmps26
  go_upto_region 1 with (fail)
  generalize World.alloc w _ = w1 at hB hC ⊢
  obtain ⟨c0, c1, c2, c3, c4⟩ := five hC
  replace hB := Lib.hid hB
  replace hC := Lib.hid hC
  go_wp2_with (first | (go_at_call 31; (with_reducible refine (hT.out _ hB.out).mono ?_); rintro e x2 ⟨rfl, b2⟩))
  all_goals
    go_ret2
    exact ⟨rfl, hB.out.trans (b2.mono hB.out.size)⟩
end Go.Proofs.YtplbfmcgddnkeaaGreatDoor
end
section
set_option maxHeartbeats 4000000
set_option maxRecDepth 100000
namespace Go.Proofs.YtplbfmcgddnkeaaGreatDoor
open Go.RowKit
theorem read0_any (t : Syn) (hM : Mod t) (q : Option Addr) (d : Nat) (kd : Int) (hkd : kd.tmod 4 = 0) (w : World) (hE : PEnv w) (ht : TabW w) (hks : KidR w t.kids (.slice q t.kids.length d)) (hbig : okK 0 t = true → (wrK 0 t).length ≤ 140737488355328) :
    Calls Tryz.prog 17 #[nodeV t q d, .int .u8 kd] w (RdPost w (prK 0 t) (parseO (prK 0 t).1 (rdK 0))) := by
  have hP : ∀ W, Below w.heap.size w W → Calls Tryz.prog 26 #[nodeV t q d] W (TPost W (prK 0 t)) := fun W hb => pFormat_any t hM q d W (hE.below hb) (tab_low ht hb) (hks.low hb) hbig
  have hR : ∀ W, Below w.heap.size w W → Calls Tryz.prog 19 #[.string ⟨(prK 0 t).1.toArray⟩] W (PResN W (parseO (prK 0 t).1 (rdK 0))) := fun W hb => (fullParse_any _ W (by have := printO_len (okK 0 t) (wrK 0 t) (parseO (wrK 0 t) (rdK 0)); unfold prK; omega) (hE.below hb)).mono fun e w' h => h.norm
  generalize parseO (prK 0 t).1 (rdK 0) = o at *
  generalize prK 0 t = res at *
  obtain ⟨txt, er⟩ := res
  obtain ⟨kk, tx, n, a, ks⟩ := t
  replace hP : ∀ W, Below w.heap.size w W → Calls Tryz.prog 26 #[(Value.agg #[.int .i64 kk, .string ⟨List.toArray tx⟩, .int .i64 n, .int .i64 a, .slice q ks.length d])] W fun e w' => e = .returned (.tuple #[.string ⟨txt.toArray⟩, .int .i64 er]) ∧ Below W.heap.size W w' := hP
  show Calls Tryz.prog 17 #[(Value.agg #[.int .i64 kk, .string ⟨List.toArray tx⟩, .int .i64 n, .int .i64 a, .slice q ks.length d]), .int .u8 kd] w _
  clear hbig hks hM hE ht
  generalize ks.length = m at *
  replace hP := Lib.hid hP
  replace hR := Lib.hid hR
  have hB := (boxed_below w kk tx n a q m d)
  have hC := five (boxed_new w kk tx n a q m d)
  have hs : (boxed w kk tx n a q m d).heap.size = w.heap.size + 1 := World.size_alloc ..
  have hB1 := hB.alloc (by rw [hs]; omega) zSyn
  have hC1 := five_low hC ((Below.refl _ _).alloc (Nat.le_refl _) zSyn)
  have hS1 : SynBlk ((boxed w kk tx n a q m d).alloc zSyn) (w.heap.size + 1) := by rw [← hs]; exact SynBlk.new
  have hs1 : ((boxed w kk tx n a q m d).alloc zSyn).heap.size = w.heap.size + 1 + 1 := by rw [World.size_alloc, hs]
  have hB2 := hB1.alloc (by rw [hs1]; omega) zSyn
  have hC2 := five_low hC1 ((Below.refl _ _).alloc (Nat.le_refl _) zSyn)
  have hS2 : SynBlk (((boxed w kk tx n a q m d).alloc zSyn).alloc zSyn) (w.heap.size + 1) := hS1.alloc
  have hT2 : SynBlk (((boxed w kk tx n a q m d).alloc zSyn).alloc zSyn) (w.heap.size + 1 + 1) := by rw [← hs1]; exact SynBlk.new
  clear hB hC hs hB1 hC1 hS1 hs1
  unfold boxed zSyn at hB2 hC2 hS2 hT2
  go_enter Tryz.func17, Tryz.ntmps17
  go_upto_region 4 with (fail)
  generalize World.alloc (World.alloc (World.alloc w _) _) _ = w1 at hB2 hC2 hS2 hT2 ⊢
  have hl1 : w.heap.size ≤ w.heap.size + 1 := Nat.le_succ _
  have hl2 : w.heap.size ≤ w.heap.size + 1 + 1 := by omega
  have hl3 : w.heap.size + 1 ≠ w.heap.size + 1 + 1 := by omega
  have hl4 : w.heap.size + 1 ≤ w.heap.size + 1 + 1 := by omega
  generalize hA1 : w.heap.size + 1 = A1 at *
  generalize hA2 : A1 + 1 = A2 at *
  clear hA1 hA2
  obtain ⟨c0, c1, c2, c3, c4⟩ := hC2
  replace hB2 := Lib.hid hB2
  replace hS2 := Lib.hid hS2
  replace hT2 := Lib.hid hT2
  go_upto_region 16 with (first | (go_at_call 26; (with_reducible refine (hP.out _ hB2.out).mono ?_); rintro e x2 ⟨rfl, b2⟩; have hB3 := Lib.hid (hB2.out.trans (b2.mono hB2.out.size))) | (go_at_call 19; (with_reducible refine (hR.out _ hB3.out).mono ?_); rintro e x3 ⟨b3, y, q3, d3, z3, rfl, hk3, hy3⟩; have hB4 := hB3.out.trans (b3.mono hB3.out.size); have hT4 := syn_low (syn_low hT2.out b2) b3; have hS4 := syn_low (syn_low hS2.out b2) b3))
  have hn2 : A2 < x2.heap.size := by have := b2.size; obtain ⟨_, _, _, _, _, _, h⟩ := hT2.out; have := (Array.getElem?_eq_some_iff.1 h).1; omega
  have hF := five_set hT4 (.int .i64 y.kind) (.string ⟨y.text.toArray⟩) (.int .i64 y.num) (.int .i64 y.pos) (.slice q3 y.kids.length d3)
  have hK := (Keep.refl (S := Fr x2.heap.size) x3).setSyn (B := A2) (fun h => Nat.not_le_of_lt hn2 h) (.int .i64 y.kind) (.string ⟨y.text.toArray⟩) (.int .i64 y.num) (.int .i64 y.pos) (.slice q3 y.kids.length d3)
  have hB5 := below_setSyn hB4 hl2 (.int .i64 y.kind) (.string ⟨y.text.toArray⟩) (.int .i64 y.num) (.int .i64 y.pos) (.slice q3 y.kids.length d3)
  have hS5 : SynBlk (setSyn x3 A2 (.int .i64 y.kind) (.string ⟨y.text.toArray⟩) (.int .i64 y.num) (.int .i64 y.pos) (.slice q3 y.kids.length d3)) A1 := by
    obtain ⟨a', b', c', d', e', T', h⟩ := hS4
    exact ⟨a', b', c', d', e', T', (heap_setSyn_ne hl3).trans h⟩
  clear hB4 hT4 hS4 hT2 hS2 c0 c1 c2 c3 c4 hP hR
  generalize setSyn x3 A2 _ _ _ _ _ = x4 at hF hK hB5 hS5 ⊢
  obtain ⟨c0, c1, c2, c3, c4⟩ := hF
  have hF6 := five_set hS5 (.int .i64 y.kind) (.string ⟨y.text.toArray⟩) (.int .i64 y.num) (.int .i64 y.pos) (.slice q3 y.kids.length d3)
  have hK6 := hK.setSyn (B := A1) (fun h => Nat.not_le_of_lt (Nat.lt_of_le_of_lt (by omega) hn2) h) (.int .i64 y.kind) (.string ⟨y.text.toArray⟩) (.int .i64 y.num) (.int .i64 y.pos) (.slice q3 y.kids.length d3)
  have hB6 := Lib.hid (below_setSyn hB5 hl1 (.int .i64 y.kind) (.string ⟨y.text.toArray⟩) (.int .i64 y.num) (.int .i64 y.pos) (.slice q3 y.kids.length d3))
  replace hK6 := Lib.hid hK6
  obtain ⟨d0, d1, d2, d3', d4⟩ := hF6
  go_wp2_with fail
  all_goals
    refine bodyPost_ret (v := .tuple #[nodeV y q3 d3, .string ⟨txt.toArray⟩, .int .i64 er, .int .i64 (errO o)]) (by simp [results, Tryz.results17, go_sem, d0, d1, d2, d3', d4]) rfl ⟨hB6.out, y, q3, d3, rfl, hk3 _ hK6.out, hy3⟩
theorem read_any (t : Syn) (hM : Mod t) (q : Option Addr) (d : Nat) (kd : Int) (k : Nat) (hk : k < 4) (hkd : kd.tmod 4 = k) (w : World) (hE : PEnv w) (ht : TabW w) (hks : KidR w t.kids (.slice q t.kids.length d)) (hbig : okK k t = true → (wrK k t).length ≤ 140737488355328) :
    Calls Tryz.prog 17 #[nodeV t q d, .int .u8 kd] w (RdPost w (prK k t) (parseO (prK k t).1 (rdK k))) := by
  match k, hk with
  | 0, _ => exact read0_any t hM q d kd hkd w hE ht hks hbig
  | 1, _ => exact read1_any t hM q d kd hkd w hE ht hks hbig
  | 2, _ => exact read2_any t hM q d kd hkd w hE ht hks hbig
  | 3, _ => exact read3_any t hM q d kd hkd w hE ht hks hbig
end Go.Proofs.YtplbfmcgddnkeaaGreatDoor
end
