/- Joined: Sme, PlainR, WpG, Set. -/
import Derived.Test.YtplbfmcgddnkeaaGreatDoorK23
import Derived.Test.YtplbfmcgddnkeaaGreatDoorK02
import Derived.Test.YtplbfmcgddnkeaaGreatDoorK35
import Derived.Test.YtplbfmcgddnkeaaGreatDoorK18
import Derived.Test.YtplbfmcgddnkeaaGreatDoorK21
import Derived.Test.YtplbfmcgddnkeaaGreatDoorK17
import Derived.Test.YtplbfmcgddnkeaaGreatDoorK37
set_option linter.unusedVariables false
set_option linter.unusedSimpArgs false
section
set_option maxHeartbeats 4000000
set_option maxRecDepth 100000
namespace Go.Proofs.YtplbfmcgddnkeaaGreatDoor
open Go.RowKit
def sameB : Syn → Syn → Bool
  | .mk k t n _ l, .mk k' t' n' _ l' => decide (k = k') && (t == t') && decide (n = n') && sameL l l'
where
  sameL : List Syn → List Syn → Bool
  | [], [] => true
  | x :: l, y :: m => sameB x y && sameL l m
  | _, _ => false
abbrev sameL := sameB.sameL
theorem sameB_mk {k k' n n' a b : Int} {t t' : List UInt8} {l l' : List Syn} : sameB (.mk k t n a l) (.mk k' t' n' b l') = (decide (k = k') && (t == t') && decide (n = n') && sameL l l') := by rw [sameB]
theorem sameL_nil : sameL [] [] = true := by show sameB.sameL [] [] = true; simp only [sameB.sameL]
theorem sameL_cons {x y : Syn} {l m : List Syn} : sameL (x :: l) (y :: m) = (sameB x y && sameL l m) := by show sameB.sameL (x :: l) (y :: m) = _; simp only [sameB.sameL]
theorem sameL_len : ∀ {l m : List Syn}, sameL l m = true → l.length = m.length
  | [], [], _ => rfl
  | x :: l, y :: m, h => by
    rw [sameL_cons, Bool.and_eq_true] at h
    rw [List.length_cons, List.length_cons, sameL_len h.2]
  | [], y :: m, h => by
    have : sameL [] (y :: m) = false := by show sameB.sameL [] (y :: m) = false; simp only [sameB.sameL]
    rw [this] at h; cases h
  | x :: l, [], h => by
    have : sameL (x :: l) [] = false := by show sameB.sameL (x :: l) [] = false; simp only [sameB.sameL]
    rw [this] at h; cases h
theorem sameL_at {l m : List Syn} {j : Nat} (h : j < l.length) (h' : j < m.length) : sameL (l.drop j) (m.drop j) = (sameB l[j] m[j] && sameL (l.drop (j + 1)) (m.drop (j + 1))) := by
  rw [List.drop_eq_getElem_cons h, List.drop_eq_getElem_cons h', sameL_cons]
theorem same_no {x y : Syn} (h : ¬ (x.kind = y.kind ∧ x.text = y.text ∧ x.num = y.num ∧ x.kids.length = y.kids.length)) : sameB x y = false := by
  rcases x with ⟨k, t, n, a, l⟩
  rcases y with ⟨k', t', n', b, l'⟩
  cases hc : sameB (.mk k t n a l) (.mk k' t' n' b l') with
  | false => rfl
  | true =>
    rw [sameB_mk] at hc
    simp only [Bool.and_eq_true, decide_eq_true_eq, beq_iff_eq] at hc
    exact absurd ⟨hc.1.1.1, hc.1.1.2, hc.1.2, sameL_len hc.2⟩ h
mutual
theorem twin_same {P : Int → Int → Prop} : ∀ {x y : Syn}, Twin P x y → sameB x y = true
  | _, _, .mk hp hl => by rw [sameB_mk]; simp [twin_sameL hl]
theorem twin_sameL {P : Int → Int → Prop} : ∀ {x y : List Syn}, TwinL P x y → sameL x y = true
  | _, _, .nil => sameL_nil
  | _, _, .cons h hl => by rw [sameL_cons, twin_same h, twin_sameL hl]; rfl
end
theorem same_any : ∀ (m : Nat) (x y : Syn), SizeOf.sizeOf x < m → Mod x → ∀ (q q' : Option Addr) (d d' : Nat) (w : World), KidR w x.kids (.slice q x.kids.length d) → KidR w y.kids (.slice q' y.kids.length d') →
    Calls Tryz.prog 18 #[nodeV x q d, nodeV y q' d'] w (VPost w (sameB x y)) := by
  intro m
  induction m with
  | zero => intro x y h; omega
  | succ m ih =>
    intro x y hm hM q q' d d' w hx hy
    obtain ⟨k, tx, n, a, xs⟩ := x
    obtain ⟨k', tx', n', b, ys⟩ := y
    replace hx : KidR w xs (.slice q xs.length d) := hx
    replace hy : KidR w ys (.slice q' ys.length d') := hy
    show Calls Tryz.prog 18 #[(Value.agg #[.int .i64 k, .string ⟨List.toArray tx⟩, .int .i64 n, .int .i64 a, .slice q xs.length d]), (Value.agg #[.int .i64 k', .string ⟨List.toArray tx'⟩, .int .i64 n', .int .i64 b, .slice q' ys.length d'])] w _
    obtain ⟨res, hr⟩ : ∃ r, Hid (r = sameB (.mk k tx n a xs) (.mk k' tx' n' b ys)) := ⟨_, Lib.hid rfl⟩
    rw [← hr.out]
    by_cases hk : k = k'
    case neg =>
      replace hr := Lib.hid (hr.out.trans (same_no fun h => hk h.1))
      have hkb : (k == k') = false := by rw [beq_eq_false_iff_ne]; exact hk
      replace hk := Lib.hid hk
      clear hx hy hM ih hm
      have hB1 := boxed_below w k tx n a q xs.length d
      have hs1 : (boxed w k tx n a q xs.length d).heap.size = w.heap.size + 1 := World.size_alloc ..
      have hB := hB1.trans ((boxed_below (boxed w k tx n a q xs.length d) k' tx' n' b q' ys.length d').mono (by rw [hs1]; omega))
      have hC := five_low (five (boxed_new w k tx n a q xs.length d)) (boxed_below (boxed w k tx n a q xs.length d) k' tx' n' b q' ys.length d')
      have hD := five (boxed_new (boxed w k tx n a q xs.length d) k' tx' n' b q' ys.length d')
      rw [hs1] at hD
      clear hB1 hs1
      unfold boxed at hB hC hD
      go_enter Tryz.func18, Tryz.ntmps18
      go_upto_region 1 with (fail)
      generalize World.alloc (World.alloc w _) _ = w1 at hB hC hD ⊢
      generalize w.heap.size + 1 = N1 at hD ⊢
      obtain ⟨c0, c1, c2, c3, c4⟩ := hC
      obtain ⟨d0, d1, d2, d3, d4⟩ := hD
      replace hB := Lib.hid hB
      go_wp2_with fail
      all_goals
        go_ret
        exact ⟨ret_b hr.out.symm, hB.out⟩
    subst hk
    by_cases ht : tx = tx'
    case neg =>
      replace hr := Lib.hid (hr.out.trans (same_no fun h => ht h.2.1))
      have hkb : (tx == tx') = false := by rw [beq_eq_false_iff_ne]; exact ht
      replace ht := Lib.hid ht
      clear hx hy hM ih hm
      have hB1 := boxed_below w k tx n a q xs.length d
      have hs1 : (boxed w k tx n a q xs.length d).heap.size = w.heap.size + 1 := World.size_alloc ..
      have hB := hB1.trans ((boxed_below (boxed w k tx n a q xs.length d) k tx' n' b q' ys.length d').mono (by rw [hs1]; omega))
      have hC := five_low (five (boxed_new w k tx n a q xs.length d)) (boxed_below (boxed w k tx n a q xs.length d) k tx' n' b q' ys.length d')
      have hD := five (boxed_new (boxed w k tx n a q xs.length d) k tx' n' b q' ys.length d')
      rw [hs1] at hD
      clear hB1 hs1
      unfold boxed at hB hC hD
      go_enter Tryz.func18, Tryz.ntmps18
      go_upto_region 1 with (fail)
      generalize World.alloc (World.alloc w _) _ = w1 at hB hC hD ⊢
      generalize w.heap.size + 1 = N1 at hD ⊢
      obtain ⟨c0, c1, c2, c3, c4⟩ := hC
      obtain ⟨d0, d1, d2, d3, d4⟩ := hD
      replace hB := Lib.hid hB
      go_wp2_with fail
      all_goals
        go_ret
        exact ⟨ret_b hr.out.symm, hB.out⟩
    subst ht
    by_cases hn : n = n'
    case neg =>
      replace hr := Lib.hid (hr.out.trans (same_no fun h => hn h.2.2.1))
      have hnb : (n == n') = false := by rw [beq_eq_false_iff_ne]; exact hn
      replace hn := Lib.hid hn
      clear hx hy hM ih hm
      have hB1 := boxed_below w k tx n a q xs.length d
      have hs1 : (boxed w k tx n a q xs.length d).heap.size = w.heap.size + 1 := World.size_alloc ..
      have hB := hB1.trans ((boxed_below (boxed w k tx n a q xs.length d) k tx n' b q' ys.length d').mono (by rw [hs1]; omega))
      have hC := five_low (five (boxed_new w k tx n a q xs.length d)) (boxed_below (boxed w k tx n a q xs.length d) k tx n' b q' ys.length d')
      have hD := five (boxed_new (boxed w k tx n a q xs.length d) k tx n' b q' ys.length d')
      rw [hs1] at hD
      clear hB1 hs1
      unfold boxed at hB hC hD
      go_enter Tryz.func18, Tryz.ntmps18
      go_upto_region 1 with (fail)
      generalize World.alloc (World.alloc w _) _ = w1 at hB hC hD ⊢
      generalize w.heap.size + 1 = N1 at hD ⊢
      obtain ⟨c0, c1, c2, c3, c4⟩ := hC
      obtain ⟨d0, d1, d2, d3, d4⟩ := hD
      replace hB := Lib.hid hB
      go_wp2_with fail
      all_goals
        go_ret
        exact ⟨ret_b hr.out.symm, hB.out⟩
    subst hn
    by_cases hl : xs.length = ys.length
    case neg =>
      replace hr := Lib.hid (hr.out.trans (same_no fun h => hl h.2.2.2))
      have hlb : ((xs.length : Int) == (ys.length : Int)) = false := by rw [beq_eq_false_iff_ne]; omega
      have hli : ¬ (xs.length : Int) = (ys.length : Int) := by omega
      replace hl := Lib.hid hl
      clear hx hy hM ih hm
      have hB1 := boxed_below w k tx n a q xs.length d
      have hs1 : (boxed w k tx n a q xs.length d).heap.size = w.heap.size + 1 := World.size_alloc ..
      have hB := hB1.trans ((boxed_below (boxed w k tx n a q xs.length d) k tx n b q' ys.length d').mono (by rw [hs1]; omega))
      have hC := five_low (five (boxed_new w k tx n a q xs.length d)) (boxed_below (boxed w k tx n a q xs.length d) k tx n b q' ys.length d')
      have hD := five (boxed_new (boxed w k tx n a q xs.length d) k tx n b q' ys.length d')
      rw [hs1] at hD
      clear hB1 hs1
      unfold boxed at hB hC hD
      go_enter Tryz.func18, Tryz.ntmps18
      go_upto_region 1 with (fail)
      generalize World.alloc (World.alloc w _) _ = w1 at hB hC hD ⊢
      generalize w.heap.size + 1 = N1 at hD ⊢
      obtain ⟨c0, c1, c2, c3, c4⟩ := hC
      obtain ⟨d0, d1, d2, d3, d4⟩ := hD
      replace hB := Lib.hid hB
      go_wp2_with fail
      all_goals
        go_ret
        exact ⟨ret_b hr.out.symm, hB.out⟩
    replace hr := Lib.hid (hr.out.trans (show _ = sameL xs ys by rw [sameB_mk]; simp))
    have hlb : ((xs.length : Int) == (ys.length : Int)) = true := by rw [beq_iff_eq]; omega
    have hml : xs.length ≤ 100000 := hM.len
    have hMk := hM.kid
    simp only [Syn.mk.sizeOf_spec] at hm
    rw [← hl] at hy hlb ⊢
    replace hl := Lib.hid hl
    replace ih := Lib.hid ih
    replace hMk := Lib.hid hMk
    have hB1 := boxed_below w k tx n a q xs.length d
    have hs1 : (boxed w k tx n a q xs.length d).heap.size = w.heap.size + 1 := World.size_alloc ..
    have hB := hB1.trans ((boxed_below (boxed w k tx n a q xs.length d) k tx n b q' xs.length d').mono (by rw [hs1]; omega))
    have hC := five_low (five (boxed_new w k tx n a q xs.length d)) (boxed_below (boxed w k tx n a q xs.length d) k tx n b q' xs.length d')
    have hD := five (boxed_new (boxed w k tx n a q xs.length d) k tx n b q' xs.length d')
    rw [hs1] at hD
    have hx1 := hx.low hB
    have hy1 := hy.low hB
    clear hB1 hs1 hx hy
    unfold boxed at hB hC hD hx1 hy1
    go_enter Tryz.func18, Tryz.ntmps18
    go_upto_region 3 with (fail)
    generalize World.alloc (World.alloc w _) _ = w1 at hB hC hD hx1 hy1 ⊢
    generalize w.heap.size + 1 = N1 at hD ⊢
    replace hB := Lib.hid hB
    replace hx1 := Lib.hid hx1
    replace hy1 := Lib.hid hy1
    replace hC := Lib.hid (fun W (h : Below w1.heap.size w1 W) => five_low hC h)
    replace hD := Lib.hid (fun W (h : Below w1.heap.size w1 W) => five_low hD h)
    go_wp2_with fail
    go_loopw [5] (fun i wr => (∃ j : Nat, j ≤ xs.length ∧ i = .int .i64 j ∧ Hid (sameL xs ys = sameL (xs.drop j) (ys.drop j))) ∧ Hid (Below w1.heap.size w1 wr)) (fun i _ => xs.length - (intOf i).toNat)
    case atStart => exact ⟨⟨0, by omega, rfl, Lib.hid rfl⟩, Lib.hid (Below.refl w1.heap.size w1)⟩
    case round =>
      obtain ⟨⟨j, hj, rfl, hsj⟩, hbw⟩ := hrel
      obtain ⟨c0, c1, c2, c3, c4⟩ := hC.out wr hbw.out
      obtain ⟨d0, d1, d2, d3, d4⟩ := hD.out wr hbw.out
      by_cases hlt : j < xs.length
      · have hlt' : j < ys.length := by have := hl.out; omega
        have hbd : Below w1.heap.size w1 wr.drew := below_drawn hbw.out 1
        obtain ⟨-, -, -, -, e4⟩ := hC.out _ hbd
        obtain ⟨-, -, -, -, f4⟩ := hD.out _ hbd
        obtain ⟨g, o, u, v, rfl, hu, hku⟩ := (hx1.out.low hbd).get j hlt
        obtain ⟨g', o', u', v', rfl, hu', hku'⟩ := (hy1.out.low hbd).get j hlt'
        have hsz := List.sizeOf_lt_of_mem (List.getElem_mem hlt)
        have hcall := ih.out xs[j] ys[j] (by omega) (hMk.out _ (List.getElem_mem hlt)) u u' v v' wr.drew hku hku'
        have hst := sameL_at hlt hlt'
        rw [hsj.out] at hr
        replace hr := Lib.hid (hr.out.trans hst)
        replace hsj := Lib.hid (hsj.out.trans hst)
        clear hst hsz hku hku'
        generalize xs[j] = x at hcall hu hr hsj
        generalize ys[j] = y at hcall hu' hr hsj
        obtain ⟨u0, u1, u2, u3, u4⟩ := hu
        obtain ⟨v0, v1, v2, v3, v4⟩ := hu'
        replace hbd := Lib.hid hbd
        replace hcall := Lib.hid hcall
        cases hsb : sameB x y with
        | false =>
          rw [hsb] at hcall
          replace hr := Lib.hid (hr.out.trans (by rw [hsb]; first | done | rfl))
          replace hsb := Lib.hid hsb
          go_wp2_with fail
          go_region_with (go_at_call 18; (with_reducible refine (hcall.out).mono ?_); rintro e w3 ⟨rfl, b3⟩; replace b3 := Lib.hid b3)
          all_goals
            go_wp2_with fail
            refine bodyPost_ret (v := .bool false) (by simp [results, Tryz.results18, go_sem]) rfl ⟨ret_b hr.out.symm, hB.out.trans ((hbd.out.trans (b3.out.mono hbd.out.size)).mono hB.out.size)⟩
        | true =>
          rw [hsb] at hcall
          have hsj' := Lib.hid (hsj.out.trans (by rw [hsb]; first | done | exact Bool.true_and _))
          replace hsb := Lib.hid hsb
          go_wp2_with fail
          go_region_with (go_at_call 18; (with_reducible refine (hcall.out).mono ?_); rintro e w3 ⟨rfl, b3⟩; replace b3 := Lib.hid b3)
          all_goals
            go_wp2_with fail
            go_roundw
            case rel => exact ⟨⟨j + 1, by omega, by go_num, hsj'⟩, Lib.hid (hbd.out.trans (b3.out.mono hbd.out.size))⟩
            case measure => simp [intOf]; omega
      · have hE : sameL xs ys = true := by
          rw [hsj.out, List.drop_eq_nil_of_le (by omega), List.drop_eq_nil_of_le (by have := hl.out; omega)]; exact sameL_nil
        go_wp2_with fail
        refine bodyPost_ret (v := .bool true) (by simp [results, Tryz.results18, go_sem]) rfl ⟨ret_b (hr.out.trans hE).symm, hB.out.trans (hbw.out.mono hB.out.size)⟩
end Go.Proofs.YtplbfmcgddnkeaaGreatDoor
end
section
namespace Go.Proofs.YtplbfmcgddnkeaaGreatDoor
def LikeO (x : Syn) (o : Out Syn) : Prop := match o with | .ok y _ => Twin Any x y | .err _ e => e = 12 | .none => False
section
variable {s : List UInt8} {x : Syn} {j : Nat}
end
end Go.Proofs.YtplbfmcgddnkeaaGreatDoor
end
section
namespace Go.Proofs.YtplbfmcgddnkeaaGreatDoor
def kwPart (k : Int) : List UInt8 := if k = 2 then kWhere else if k = 3 then kAllow else kCalm
def ktpart (x : Syn) : List KT := (0, kwPart x.kind) :: ktc (kid0 x)
def ktd (t : Syn) : List KT :=
  (if t.kind = 1 then (0, kTask) :: (0, t.text) :: (0, kInputs) :: (1, dec t.num.toNat) :: (0, kOutputs) :: (1, dec (kid0 t).num.toNat) :: (t.kids.drop 1).flatMap ktpart
  else if t.kind = 5 then (0, kAdv) :: (0, t.text) :: (2, [61]) :: ktS (kid0 t)
  else if t.kind = 6 then (0, kFormula) :: (0, t.text) :: (2, [61]) :: ktf (kid0 t)
  else [(0, kProblem), (0, t.text), (2, [61]), (0, (kid0 t).text), (0, kUnder), (0, (kid1 t).text), (0, kRounds), (1, dec t.num.toNat)]) ++ [(2, [59])]
def ktprog (t : Syn) : List KT := (0, kProcesses) :: (1, dec t.num.toNat) :: (2, [59]) :: t.kids.flatMap ktd
theorem spl_numI {n : Int} (h : 0 ≤ n ∧ n ≤ 1048576) : Spl (dec n.toNat) [(1, dec n.toNat)] := spl_tok (k := 1) (dec_tok (by omega))
theorem spl_nm {s : List UInt8} (h : nameB s = true) : Spl s [(0, s)] := spl_tok (k := 0) (nameB_tok h).1
theorem spl_eq {t : List UInt8} {J : List KT} (h : Spl t J) : Spl (61 :: 32 :: t) ((2, [61]) :: J) := (spl_tok (s := [61]) (k := 2) (tokIs (by decide))).thenC h.blank
theorem spl_part {k : Int} {x : Syn} (hk : k = 2 ∨ k = 3 ∨ k = 4) (h : partB k x = true) : Spl (wpart x) (ktpart x) := by
  obtain ⟨q, a, rfl, ha⟩ := part_shape h
  have hw : tok (kwPart k) = .ok (0, (kwPart k).length) := by rcases hk with rfl | rfl | rfl <;> exact tokIs (by decide)
  exact ((spl_tok hw).thenC (spl_c a ha).blank).blank
theorem spl_parts : ∀ l : List Syn, (∀ x ∈ l, ∃ k : Int, (k = 2 ∨ k = 3 ∨ k = 4) ∧ partB k x = true) → Spl (l.flatMap wpart) (l.flatMap ktpart) ∧ ∀ y, sepd y → sepd (l.flatMap wpart ++ y)
  | [], _ => ⟨spl_nil, fun _ h => h⟩
  | x :: r, h => by
    obtain ⟨k, hk, hx⟩ := h x (List.mem_cons_self ..)
    obtain ⟨h1, h2⟩ := spl_parts r fun y hy => h y (List.mem_cons_of_mem _ hy)
    exact ⟨(spl_part hk hx).then h1 h2, fun y hy => by
      rw [List.flatMap_cons]; unfold wpart; exact sepd_cons (by decide) (by decide)⟩
def SplE (s : List UInt8) (K : List KT) : Prop := ∀ y B, Lx y B → Lx (s ++ y) (K ++ B)
theorem spl_end {s : List UInt8} {K : List KT} (h : Spl s K) : SplE (s ++ [59, 10]) (K ++ [(2, [59])]) := fun y B hy => by
  rw [List.append_assoc, List.append_assoc]
  exact h _ _ (sepd_cons (by decide) (by decide)) (lx_sign (by simp) (lx_blank (by decide) hy))
theorem spl_d {t : Syn} (h : declB t = true) : SplE (wdecl t) (ktd t) := by
  obtain ⟨h1, h2, h3⟩ := decl_parts h
  unfold wdecl ktd
  refine spl_end ?_
  rcases h3 with ⟨hk, a, w, b, c, e, ha, hw, hb, hc⟩ | ⟨hk, -, a, e, ha⟩ | ⟨hk, -, a, e, ha⟩ | ⟨hk, a, b, e, ha, hb⟩
  · rw [if_pos hk, if_pos hk]
    obtain ⟨q1, q2⟩ := spl_parts (w ++ b :: c) (tsk_parts (a := a) hw hb hc)
    have e1 : t.kids.drop 1 = w ++ b :: c := by rw [e]; rfl
    have e2 : kid0 t = a := by unfold kid0; rw [e]; rfl
    rw [e1, e2]
    exact (spl_kw).thenC ((spl_nm h1).thenC ((spl_kw).thenC ((spl_numI h2).thenC ((spl_kw).thenC ((spl_num ha).then q1 q2).blank).blank).blank).blank).blank
  · have e2 : kid0 t = a := by unfold kid0; rw [e]; rfl
    rw [if_neg (by omega), if_pos hk, if_neg (by omega), if_pos hk, e2]
    exact (spl_kw).thenC ((spl_nm h1).thenC (spl_eq (spl_s a ha)).blank).blank
  · have e2 : kid0 t = a := by unfold kid0; rw [e]; rfl
    rw [if_neg (by omega), if_neg (by omega), if_pos hk, if_neg (by omega), if_neg (by omega), if_pos hk, e2]
    exact (spl_kw).thenC ((spl_nm h1).thenC (spl_eq (spl_f a ha)).blank).blank
  · have e2 : kid0 t = a := by unfold kid0; rw [e]; rfl
    have e3 : kid1 t = b := by unfold kid1; rw [e]; rfl
    rw [if_neg (by omega), if_neg (by omega), if_neg (by omega), if_neg (by omega), if_neg (by omega), if_neg (by omega), e2, e3]
    exact (spl_kw).thenC ((spl_nm h1).thenC (spl_eq ((spl_nm (nm_parts ha).2.2.2).thenC ((spl_kw).thenC ((spl_nm (nm_parts hb).2.2.2).thenC ((spl_kw).thenC (spl_numI h2).blank).blank).blank).blank)).blank).blank
theorem lx_decls {y : List UInt8} {B : List KT} (hy : Lx y B) : ∀ l : List Syn, (∀ x ∈ l, declB x = true) → Lx (l.flatMap wdecl ++ y) (l.flatMap ktd ++ B)
  | [], _ => hy
  | x :: r, h => by
    rw [List.flatMap_cons, List.flatMap_cons, List.append_assoc, List.append_assoc]
    exact spl_d (h x (List.mem_cons_self ..)) _ _ (lx_decls hy r fun z hz => h z (List.mem_cons_of_mem _ hz))
theorem lx_prog {t : Syn} (h : progB t = true) : Lx (wprog t) (ktprog t ++ [ktEnd]) := by
  obtain ⟨-, -, h3, h4⟩ := prog_parts h
  have h5 := lx_decls lx_nil t.kids h4
  rw [List.append_nil] at h5
  unfold wprog ktprog
  have h6 : Lx (59 :: 10 :: t.kids.flatMap wdecl) ((2, [59]) :: (t.kids.flatMap ktd ++ [ktEnd])) := lx_sign (by simp) (lx_blank (by decide) h5)
  have h7 := spl_numI h3 _ _ (sepd_cons (by decide) (by decide)) h6
  exact (spl_kw (s := kProcesses)) _ _ (sepd_cons (by decide) (by decide)) (lx_blank (by decide) h7)
theorem lx_c {t : Syn} (h : okc t = true) : Lx (wrc t) (ktc t ++ [ktEnd]) := by simpa using spl_c t h [] _ sepd_nil lx_nil
theorem lx_s {t : Syn} (h : oks t = true) : Lx (wrs t) (ktS t ++ [ktEnd]) := by simpa using spl_s t h [] _ sepd_nil lx_nil
theorem lx_f {t : Syn} (h : okf t = true) : Lx (wrf t) (ktf t ++ [ktEnd]) := by simpa using spl_f t h [] _ sepd_nil lx_nil
section
variable {U : List Tok} {f lv i j L : Nat} {x y a b : Syn} {A B K : List KT} {c : KT} {t : List UInt8}
theorem stopC_end : stopC 0 (2, [59]) ∧ stopC 0 (0, kAllow) ∧ stopC 0 (0, kCalm) := by unfold stopC goC noOp; decide
theorem dn_part {k : Int} {w : List UInt8} (h : partB k x = true) (h0 : Tl U i ((0, w) :: (ktc (kid0 x) ++ c :: B))) (hs : stopC 0 c) : DN x (i + 1 + (ktc (kid0 x)).length) (part reservedB U f k lv i) := by
  obtain ⟨q, a, rfl, ha⟩ := part_shape h
  have h0' : Tl U i ((0, w) :: (ktc a ++ c :: B)) := h0
  obtain ⟨d, K, hdK⟩ := cons_of (A := ktc a) (c := c) (B := B)
  have h1 := h0'
  rw [hdK] at h1
  unfold part
  rw [tl_nx h1]
  refine ((main_c a ha).1 0 f lv _ _ _ (by unfold okM; omega) (Nat.zero_le _) (tl_next h0') hs (fun _ => hs)).bind fun y hy => ?_
  exact dn_ok (.mk trivial (.cons hy .nil))
def DL (xs : List Syn) (L : Nat) (o : Out (List Syn)) : Prop := match o with | .ok ys l => l = L ∧ TwinL Any xs ys | .err _ e => e = 12 | .none => True
theorem DL.bind {xs : List Syn} {z : Syn} {M : Nat} {o : Out (List Syn)} {g : List Syn → Nat → Out Syn} (h : DL xs L o) (hg : ∀ ys, TwinL Any xs ys → DN z M (g ys L)) : DN z M (o.bind g) := by
  cases o with
  | none => exact h
  | err p e => exact h
  | ok y l =>
    obtain ⟨rfl, h⟩ := h
    exact hg y h
theorem dl_opt_no {w : List UInt8} {k : Int} {xs ys : List Syn} (hx : TwinL Any xs ys) (h0 : Tl U i (c :: B)) (hc : noOp [w] c) : DL xs i (optPart reservedB U f w k ys lv i) := by
  unfold optPart
  rw [if_neg (noOp.isW h0 hc)]
  exact ⟨rfl, hx⟩
theorem dl_opt_yes {w : List UInt8} {k : Int} {xs ys : List Syn} (hx : TwinL Any xs ys) (h : partB k x = true) (h0 : Tl U i ((0, w) :: (ktc (kid0 x) ++ c :: B))) (hs : stopC 0 c) :
    DL (xs ++ [x]) (i + 1 + (ktc (kid0 x)).length) (optPart reservedB U f w k ys lv i) := by
  unfold optPart
  rw [if_pos (isW_T h0 (by simp))]
  have := dn_part (f := f) (lv := lv) h h0 hs
  cases hq : part reservedB U f k lv i with
  | none => trivial
  | err p e => rw [hq] at this; exact this
  | ok y l =>
    rw [hq] at this
    obtain ⟨rfl, h'⟩ := this
    exact ⟨rfl, hx.add h'⟩
theorem dn_decl {t : Syn} (h : declB t = true) (h0 : Tl U i (ktd t ++ c :: B)) : DN t (i + (ktd t).length) (declaration reservedB U f lv i) := by
  obtain ⟨h1, h2, h3⟩ := decl_parts h
  have hr := (nameB_tok h1).2
  have fin : ∀ {z : Syn} {M : Nat} {o : Out Syn}, DN z M o → Tl U M ((2, [59]) :: c :: B) → DN z (M + 1) (o.bind fun x j => (need U [59] j).bind fun _ j => .ok x j) := fun hz hM => hz.bind fun y hy => by
    rw [tl_need hM (.inl rfl), bind_okk]; exact dn_ok hy
  unfold ktd at h0 ⊢
  unfold declaration
  rcases h3 with ⟨hk, a, w, b, cc, e, ha, hw, hb, hc⟩ | ⟨hk, hn, a, e, ha⟩ | ⟨hk, hn, a, e, ha⟩ | ⟨hk, a, b, e, ha, hb⟩
  · rw [if_pos hk] at h0 ⊢
    have e1 : t.kids.drop 1 = w ++ b :: cc := by rw [e]; rfl
    have e2 : kid0 t = a := by unfold kid0; rw [e]; rfl
    rw [e1, e2] at h0 ⊢
    have t0 : Tl U i ((0, kTask) :: (0, t.text) :: (0, kInputs) :: (1, dec t.num.toNat) :: (0, kOutputs) :: (1, dec a.num.toNat) :: (w.flatMap ktpart ++ (ktpart b ++ (cc.flatMap ktpart ++ (2, [59]) :: c :: B)))) := by simpa using h0
    have t1 := tl_next t0
    have t2 := tl_next t1
    have t3 := tl_next t2
    have t4 := tl_next t3
    have t5 := tl_next t4
    have t6 := tl_next t5
    have t7 := tl_drop t6
    have t8 := tl_drop t7
    have t9 := tl_drop t8
    have hbk : ktpart b = (0, kAllow) :: ktc (kid0 b) := by obtain ⟨q, d, rfl, -⟩ := part_shape hb; rfl
    have nonempty : ∃ d D, w.flatMap ktpart ++ (ktpart b ++ (cc.flatMap ktpart ++ (2, [59]) :: c :: B)) = d :: D := by
      rw [hbk]; exact cons_of
    obtain ⟨d, D, hD⟩ := nonempty
    have t5' := t5
    rw [hD] at t5'
    rw [if_pos (isW_T t0 (by decide)), tl_nx t0, tl_name t1 hr, bind_okk, tl_need t2 (.inr rfl), bind_okk, tl_number t3, bind_okk, tl_need t4 (.inr rfl), bind_okk, tl_number t5', bind_okk]
    have hlen : i + ((0, kTask) :: (0, t.text) :: (0, kInputs) :: (1, dec t.num.toNat) :: (0, kOutputs) :: (1, dec a.num.toNat) :: (w ++ b :: cc).flatMap ktpart ++ [(2, [59])]).length =
        i + 1 + 1 + 1 + 1 + 1 + 1 + (w.flatMap ktpart).length + (ktpart b).length + (cc.flatMap ktpart).length + 1 := by
      simp only [List.length_cons, List.length_append, List.length_nil, List.flatMap_append, List.flatMap_cons]; omega
    have q1 : DL ([a] ++ w) (i + 1 + 1 + 1 + 1 + 1 + 1 + (w.flatMap ktpart).length) (optPart reservedB U f [119, 104, 101, 114, 101] 2 [.mk 9 [] (dv 0 (dec a.num.toNat) : Nat) (tk U (i + 1 + 1 + 1 + 1 + 1)).pos []] lv (i + 1 + 1 + 1 + 1 + 1 + 1)) := by
      have hx : TwinL Any [a] [.mk 9 [] (dv 0 (dec a.num.toNat) : Nat) (tk U (i + 1 + 1 + 1 + 1 + 1)).pos []] := .cons (num_twin ha _) .nil
      rcases hw with rfl | ⟨x, rfl, hx2⟩
      · rw [hbk] at t6
        exact dl_opt_no hx t6 (by unfold noOp; decide)
      · have hxk : ktpart x = (0, kWhere) :: ktc (kid0 x) := by obtain ⟨q, d, rfl, -⟩ := part_shape hx2; rfl
        have t6' : Tl U (i + 1 + 1 + 1 + 1 + 1 + 1) ((0, kWhere) :: (ktc (kid0 x) ++ (0, kAllow) :: (ktc (kid0 b) ++ (cc.flatMap ktpart ++ (2, [59]) :: c :: B)))) := by
          have := t6
          rw [hbk] at this
          simpa [hxk] using this
        have := dl_opt_yes (f := f) (lv := lv) hx hx2 t6' stopC_end.2.1
        have e3 : (List.flatMap ktpart [x]).length = 1 + (ktc (kid0 x)).length := by simp [hxk]; omega
        rw [e3, ← Nat.add_assoc]
        exact this
    have key : DN t (i + 1 + 1 + 1 + 1 + 1 + 1 + (w.flatMap ktpart).length + (ktpart b).length + (cc.flatMap ktpart).length)
        ((optPart reservedB U f [119, 104, 101, 114, 101] 2 [.mk 9 [] (dv 0 (dec a.num.toNat) : Nat) (tk U (i + 1 + 1 + 1 + 1 + 1)).pos []] lv (i + 1 + 1 + 1 + 1 + 1 + 1)).bind fun xs j =>
          if isW U [[97, 108, 108, 111, 119]] j then (part reservedB U f 3 lv j).bind fun y j => (optPart reservedB U f [99, 97, 108, 109] 4 (xs ++ [y]) lv j).bind fun ys j => .ok (Syn.mk 1 t.text ((dv 0 (dec t.num.toNat) : Nat) : Int) (tk U i).pos ys) j
          else fail U 4 j) := by
      refine q1.bind fun ys hys => ?_
      have t7' : Tl U (i + 1 + 1 + 1 + 1 + 1 + 1 + (w.flatMap ktpart).length) ((0, kAllow) :: (ktc (kid0 b) ++ (cc.flatMap ktpart ++ (2, [59]) :: c :: B))) := by
        have := t7; rw [hbk] at this; exact this
      rw [if_pos (isW_T t7' (by decide))]
      have hbl : (ktpart b).length = 1 + (ktc (kid0 b)).length := by rw [hbk, List.length_cons]; omega
      obtain ⟨d2, D2, hD2, hs2⟩ : ∃ d D, cc.flatMap ktpart ++ (2, [59]) :: c :: B = d :: D ∧ stopC 0 d := by
        rcases hc with rfl | ⟨x, rfl, hx2⟩
        · exact ⟨_, _, rfl, stopC_end.1⟩
        · have hxk : ktpart x = (0, kCalm) :: ktc (kid0 x) := by obtain ⟨q, d, rfl, -⟩ := part_shape hx2; rfl
          exact ⟨_, _, by simp only [List.flatMap_cons, List.flatMap_nil, hxk, List.append_nil]; rfl, stopC_end.2.2⟩
      rw [hD2] at t7'
      refine (dn_part hb t7' hs2).bind fun y hy => ?_
      rw [show i + 1 + 1 + 1 + 1 + 1 + 1 + (w.flatMap ktpart).length + 1 + (ktc (kid0 b)).length = i + 1 + 1 + 1 + 1 + 1 + 1 + (w.flatMap ktpart).length + (ktpart b).length by omega]
      have hys2 := hys.add hy
      have q2 : DL (([a] ++ w ++ [b]) ++ cc) (i + 1 + 1 + 1 + 1 + 1 + 1 + (w.flatMap ktpart).length + (ktpart b).length + (cc.flatMap ktpart).length) (optPart reservedB U f [99, 97, 108, 109] 4 (ys ++ [y]) lv (i + 1 + 1 + 1 + 1 + 1 + 1 + (w.flatMap ktpart).length + (ktpart b).length)) := by
        rcases hc with rfl | ⟨x, rfl, hx2⟩
        · rw [List.append_nil]
          exact dl_opt_no hys2 t8 (by unfold noOp; decide)
        · have hxk : ktpart x = (0, kCalm) :: ktc (kid0 x) := by obtain ⟨q, d, rfl, -⟩ := part_shape hx2; rfl
          have t8' : Tl U (i + 1 + 1 + 1 + 1 + 1 + 1 + (w.flatMap ktpart).length + (ktpart b).length) ((0, kCalm) :: (ktc (kid0 x) ++ (2, [59]) :: c :: B)) := by
            simpa [hxk] using t8
          have := dl_opt_yes (f := f) (lv := lv) hys2 hx2 t8' stopC_end.1
          have e3 : (List.flatMap ktpart [x]).length = 1 + (ktc (kid0 x)).length := by simp [hxk]; omega
          rw [e3, ← Nat.add_assoc]
          exact this
      refine q2.bind fun zs hzs => ?_
      refine dn_ok (twin_parts hk rfl ?_ ?_)
      · rw [dec_dv]; omega
      · rw [e]
        simpa using hzs
    rw [hlen]
    exact fin key t9
  · rw [if_neg (by omega), if_pos hk] at h0 ⊢
    have e2 : kid0 t = a := by unfold kid0; rw [e]; rfl
    rw [e2] at h0 ⊢
    have t0 : Tl U i ((0, kAdv) :: (0, t.text) :: (2, [61]) :: (ktS a ++ (2, [59]) :: c :: B)) := by simpa using h0
    have t1 := tl_next t0
    have t2 := tl_next t1
    have t3 := tl_next t2
    rw [if_neg (isW_F t0 (by decide)), if_pos (isW_T t0 (by decide)), tl_nx t0, tl_name t1 hr, bind_okk, tl_needL t2 (.inl rfl) (tl_lt' t3), bind_okk]
    have hlen : i + ((0, kAdv) :: (0, t.text) :: (2, [61]) :: ktS a ++ [(2, [59])]).length = i + 1 + 1 + 1 + (ktS a).length + 1 := by simp only [List.length_cons, List.length_append, List.length_nil]; omega
    rw [hlen]
    refine fin (((main_s a ha).1 0 f lv _ _ _ (by omega) (Nat.zero_le _) t3 (by unfold stopS goS noOp; decide)).bind fun y hy => ?_) (tl_drop t3)
    exact dn_ok (twin_parts hk rfl hn (by rw [e]; exact .cons hy .nil))
  · rw [if_neg (by omega), if_neg (by omega), if_pos hk] at h0 ⊢
    have e2 : kid0 t = a := by unfold kid0; rw [e]; rfl
    rw [e2] at h0 ⊢
    have t0 : Tl U i ((0, kFormula) :: (0, t.text) :: (2, [61]) :: (ktf a ++ (2, [59]) :: c :: B)) := by simpa using h0
    have t1 := tl_next t0
    have t2 := tl_next t1
    have t3 := tl_next t2
    rw [if_neg (isW_F t0 (by decide)), if_neg (isW_F t0 (by decide)), if_pos (isW_T t0 (by decide)), tl_nx t0, tl_name t1 hr, bind_okk, tl_needL t2 (.inl rfl) (tl_lt' t3), bind_okk]
    have hlen : i + ((0, kFormula) :: (0, t.text) :: (2, [61]) :: ktf a ++ [(2, [59])]).length = i + 1 + 1 + 1 + (ktf a).length + 1 := by simp only [List.length_cons, List.length_append, List.length_nil]; omega
    rw [hlen]
    refine fin (((main_f a ha).1 0 f lv _ _ _ (by omega) (Nat.zero_le _) t3 (by unfold stopF goF noOp; decide)).bind fun y hy => ?_) (tl_drop t3)
    exact dn_ok (twin_parts hk rfl hn (by rw [e]; exact .cons hy .nil))
  · rw [if_neg (by omega), if_neg (by omega), if_neg (by omega)] at h0 ⊢
    have e2 : kid0 t = a := by unfold kid0; rw [e]; rfl
    have e3 : kid1 t = b := by unfold kid1; rw [e]; rfl
    rw [e2, e3] at h0 ⊢
    obtain ⟨a1, a2, a3, a4⟩ := nm_parts ha
    obtain ⟨b1, b2, b3, b4⟩ := nm_parts hb
    have t0 : Tl U i ((0, kProblem) :: (0, t.text) :: (2, [61]) :: (0, a.text) :: (0, kUnder) :: (0, b.text) :: (0, kRounds) :: (1, dec t.num.toNat) :: (2, [59]) :: c :: B) := h0
    have t1 := tl_next t0
    have t2 := tl_next t1
    have t3 := tl_next t2
    have t4 := tl_next t3
    have t5 := tl_next t4
    have t6 := tl_next t5
    have t7 := tl_next t6
    rw [if_neg (isW_F t0 (by decide)), if_neg (isW_F t0 (by decide)), if_neg (isW_F t0 (by decide)), if_pos (isW_T t0 (by decide)), tl_nx t0, tl_name t1 hr, bind_okk, tl_need t2 (.inl rfl), bind_okk, tl_name t3 (nameB_tok a4).2, bind_okk,
      tl_need t4 (.inr rfl), bind_okk, tl_name t5 (nameB_tok b4).2, bind_okk, tl_need t6 (.inr rfl), bind_okk, tl_number t7, bind_okk]
    refine fin (z := t) (M := i + 8) (dn_ok (twin_parts hk rfl ?_ ?_)) (tl_next t7)
    · show t.num = ((dv 0 (dec t.num.toNat) : Nat) : Int)
      rw [dec_dv]; omega
    · rw [e]
      exact .cons (twin_parts a1 rfl a2 (by rw [a3]; exact .nil)) (.cons (twin_parts b1 rfl b2 (by rw [b3]; exact .nil)) .nil)
theorem dl_decls : ∀ (ks : List Syn) (g : Nat) (xs ys : List Syn) (i : Nat), (∀ x ∈ ks, declB x = true) → TwinL Any xs ys → Tl U i (ks.flatMap ktd ++ [ktEnd]) → DL (xs ++ ks) (i + (ks.flatMap ktd).length) (declLoop reservedB U f lv g ys i)
  | _, 0, _, _, _, _, _, _ => trivial
  | [], g + 1, xs, ys, i, _, hx, h0 => by
    rw [declLoop, if_pos (tl_kind (show Tl U i (ktEnd :: []) from h0)), List.append_nil]
    exact ⟨rfl, hx⟩
  | k :: r, g + 1, xs, ys, i, h, hx, h0 => by
    have hk := h k (List.mem_cons_self ..)
    rw [List.flatMap_cons, List.append_assoc] at h0
    obtain ⟨c, B, hcB⟩ := cons_of (A := r.flatMap ktd) (c := ktEnd) (B := [])
    have h0' := h0
    rw [hcB] at h0'
    have hd := dn_decl (f := f) (lv := lv) hk h0'
    have hne : ¬ (tk U i).kind = 3 := by
      have : ∃ w W, ktd k ++ (r.flatMap ktd ++ [ktEnd]) = (0, w) :: W := by unfold ktd; split <;> (try split) <;> (try split) <;> exact ⟨_, _, rfl⟩
      obtain ⟨w, W, e⟩ := this
      rw [e] at h0
      rw [tl_kind h0]
      show ¬ (0 : Int) = 3
      decide
    rw [declLoop, if_neg hne]
    cases hq : declaration reservedB U f lv i with
    | none => trivial
    | err p e => rw [hq] at hd; exact hd
    | ok y l =>
      rw [hq] at hd
      obtain ⟨rfl, hy⟩ := hd
      have := dl_decls r g (xs ++ [k]) (ys ++ [y]) (i + (ktd k).length) (fun z hz => h z (List.mem_cons_of_mem _ hz)) (hx.add hy) (tl_drop h0)
      rw [List.flatMap_cons, List.length_append, ← Nat.add_assoc, bind_okk]
      simpa using this
theorem dn_prog {t : Syn} (h : progB t = true) (h0 : Tl U 0 (ktprog t ++ [ktEnd])) : DN t (ktprog t).length (program reservedB U f 0 0) := by
  obtain ⟨h1, h2, h3, h4⟩ := prog_parts h
  unfold ktprog at h0 ⊢
  have t0 : Tl U 0 ((0, kProcesses) :: (1, dec t.num.toNat) :: (2, [59]) :: (t.kids.flatMap ktd ++ [ktEnd])) := h0
  have t1 := tl_next t0
  have t2 := tl_next t1
  have t3 := tl_next t2
  unfold program
  rw [tl_need t0 (.inr rfl), bind_okk, tl_number t1, bind_okk, tl_needL t2 (.inl rfl) (tl_lt' (A := t.kids.flatMap ktd) t3), bind_okk]
  have := dl_decls (f := f) (lv := 0) t.kids (U.length + 1) [] [] (0 + 1 + 1 + 1) h4 .nil t3
  have e : ((0, kProcesses) :: (1, dec t.num.toNat) :: (2, [59]) :: t.kids.flatMap ktd).length = 0 + 1 + 1 + 1 + (t.kids.flatMap ktd).length := by simp only [List.length_cons]; omega
  rw [e]
  refine this.bind fun ys hys => ?_
  refine dn_ok (twin_parts h1 h2 ?_ hys)
  show t.num = ((dv 0 (dec t.num.toNat) : Nat) : Int)
  rw [dec_dv]; omega
end
theorem like_dn {x : Syn} {s : List UInt8} {K : List KT} {r : List Tok → Rd} (hs : s.length ≤ 65536) (hl : Lx s (K ++ [ktEnd])) (hr : ∀ U, Tl U 0 (K ++ [ktEnd]) → DN x K.length (r U 0 0)) (hn : parseO s r ≠ .none) : LikeO x (parseO s r) := by
  obtain ⟨U, hU, hK⟩ := scan_lx hl hs
  have h0 : Tl U 0 (K ++ [ktEnd]) := tl_zero hK
  have h1 := hr U h0
  have h2 : parseO s r = whole U (r U) := by unfold parseO; rw [hU]
  rw [h2] at hn ⊢
  have hk : (tk U K.length).kind = 3 := by
    have := tl_drop h0
    rw [Nat.zero_add] at this
    exact tl_kind this
  have h3 : DN x K.length (whole U (r U)) := by
    unfold whole
    refine h1.bind fun y hy => ?_
    rw [if_pos hk]
    exact dn_ok hy
  cases hq : whole U (r U) with
  | none => exact absurd hq hn
  | err p e => rw [hq] at h3; exact h3
  | ok y l => rw [hq] at h3; exact h3.2
theorem rdO_nn' (s : List UInt8) (nt : NT) : parseO s (rdO nt) ≠ .none := parseO_nn s _ fun T hT => rdO_nn hT nt 0 0 hT.pos
theorem like_c {t : Syn} (h : okc t = true) (hs : (wrc t).length ≤ 65536) : LikeO t (parseO (wrc t) (rdO .cond)) :=
  like_dn hs (lx_c h) (fun U h0 => by have := (main_c (U := U) t h).1 0 (fuelOf U) 0 0 _ _ (by unfold okM; omega) (Nat.zero_le _) h0 (by unfold stopC goC noOp; decide) (fun _ => by unfold stopC goC noOp; decide); rw [Nat.zero_add] at this; exact this) (rdO_nn' _ _)
theorem like_s {t : Syn} (h : oks t = true) (hs : (wrs t).length ≤ 65536) : LikeO t (parseO (wrs t) (rdO .scheme)) :=
  like_dn hs (lx_s h) (fun U h0 => by have := (main_s (U := U) t h).1 0 (fuelOf U) 0 0 _ _ (by omega) (Nat.zero_le _) h0 (by unfold stopS goS noOp; decide); rw [Nat.zero_add] at this; exact this) (rdO_nn' _ _)
theorem like_f {t : Syn} (h : okf t = true) (hs : (wrf t).length ≤ 65536) : LikeO t (parseO (wrf t) (rdO .formula)) :=
  like_dn hs (lx_f h) (fun U h0 => by have := (main_f (U := U) t h).1 0 (fuelOf U) 0 0 _ _ (by omega) (Nat.zero_le _) h0 (by unfold stopF goF noOp; decide); rw [Nat.zero_add] at this; exact this) (rdO_nn' _ _)
theorem like_p {t : Syn} (h : progB t = true) (hs : (wprog t).length ≤ 65536) : LikeO t (parseO (wprog t) progR) :=
  like_dn hs (lx_prog h) (fun U h0 => dn_prog h h0) (parseO_nn _ _ fun T hT => progR_nn hT)
end Go.Proofs.YtplbfmcgddnkeaaGreatDoor
end
section
set_option maxHeartbeats 4000000
set_option maxRecDepth 100000
namespace Go.Proofs.YtplbfmcgddnkeaaGreatDoor
open Go.RowKit
abbrev five5 (t : Syn) (q : Option Addr) (d : Nat) : Array Value := #[.int .i64 t.kind, .string ⟨t.text.toArray⟩, .int .i64 t.num, .int .i64 t.pos, .slice q t.kids.length d]
theorem u8_bounds {a : Int} (h : (Lit.int .u8 a).wf = true) : 0 ≤ a ∧ a ≤ 255 := by
  have h1 : IntKind.u8.min = 0 := rfl
  have h2 : IntKind.u8.max = 255 := rfl
  simp only [Lit.wf, Bool.and_eq_true, decide_eq_true_eq] at h
  omega
theorem parseK_nn (k : Nat) (s : List UInt8) : parseO s (rdK k) ≠ .none := by
  unfold rdK
  split
  · exact parseO_nn s _ fun T hT => progR_nn hT
  · split
    · exact rdO_nn' _ _
    · split
      · exact rdO_nn' _ _
      · exact rdO_nn' _ _
theorem parseK_err {k : Nat} {s : List UInt8} {p : Int} {x : Nat} (h : parseO s (rdK k) = .err p x) : 0 < x := by
  unfold parseO at h
  split at h
  · rename_i d e hT
    injection h with h1 h2
    have := scan_err hT
    omega
  · rename_i T hT
    have h2 := whole_g (scan_asc hT) (rdK_g k T (scan_asc hT)) (scanned hT).pos
    rw [h] at h2
    obtain ⟨-, -, h | h⟩ := h2 <;> omega
theorem likeK {k : Nat} (hk : k < 4) {t : Syn} (h : okK k t = true) (hs : (wrK k t).length ≤ 65536) : LikeO t (parseO (wrK k t) (rdK k)) := by
  match k, hk with
  | 0, _ => exact like_p h hs
  | 1, _ => exact like_c h hs
  | 2, _ => exact like_s h hs
  | 3, _ => exact like_f h hs
theorem twinK {k : Nat} (hk : k < 4) {x y : Syn} (h : Twin Any x y) : okK k x = okK k y ∧ wrK k x = wrK k y := by
  match k, hk with
  | 0, _ => exact ⟨tw_prog h, tw_wprog trivial h⟩
  | 1, _ => exact ⟨tw_okc h, tw_wrc h⟩
  | 2, _ => exact ⟨tw_oks h, tw_wrs h⟩
  | 3, _ => exact ⟨tw_okf h, tw_wrf h⟩
theorem settle {k : Nat} (hk : k < 4) {t : Syn} (ho : okK k t = true) : (∃ e, prK k t = ([], e) ∧ (e = 12 ∨ e = 13)) ∨ (prK k t = (wrK k t, 0) ∧ ∃ y j, parseO (wrK k t) (rdK k) = .ok y j ∧ Twin Any t y) := by
  unfold prK printO
  rw [if_pos ho]
  by_cases hl : 65536 < (wrK k t).length
  · rw [if_pos hl]; exact Or.inl ⟨13, rfl, Or.inr rfl⟩
  · rw [if_neg hl]
    have h := likeK hk ho (by omega)
    cases hq : parseO (wrK k t) (rdK k) with
    | none => rw [hq] at h; exact h.elim
    | err p e =>
      rw [hq] at h
      obtain rfl : e = 12 := h
      exact Or.inl ⟨12, rfl, Or.inl rfl⟩
    | ok y j => rw [hq] at h; exact Or.inr ⟨rfl, y, j, rfl, h⟩
theorem prK_twin {k : Nat} (hk : k < 4) {x y : Syn} (h : Twin Any x y) : prK k y = prK k x := by
  obtain ⟨h1, h2⟩ := twinK hk h
  unfold prK
  rw [h1, h2]
end Go.Proofs.YtplbfmcgddnkeaaGreatDoor
end
