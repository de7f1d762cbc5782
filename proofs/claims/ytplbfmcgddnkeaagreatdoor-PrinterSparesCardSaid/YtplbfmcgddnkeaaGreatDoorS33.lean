/- Joined: Sme, Few, SprB, PlainR, WpG, Set, Spq. -/
import Derived.Test.YtplbfmcgddnkeaaGreatDoorS21
import Derived.Test.YtplbfmcgddnkeaaGreatDoorS02
import Derived.Test.YtplbfmcgddnkeaaGreatDoorS31
import Derived.Test.YtplbfmcgddnkeaaGreatDoorS18
import Derived.Test.YtplbfmcgddnkeaaGreatDoorS30
import Derived.Test.YtplbfmcgddnkeaaGreatDoorS16
import Derived.Test.YtplbfmcgddnkeaaGreatDoorS17
import Derived.Test.YtplbfmcgddnkeaaGreatDoorS32
import Derived.Test.YtplbfmcgddnkeaaGreatDoorS15
set_option linter.unusedVariables false
set_option linter.unusedSimpArgs false
section
set_option maxHeartbeats 4000000
set_option maxRecDepth 100000
namespace Go.Proofs.YtplbfmcgddnkeaaGreatDoor
open Go.RowKit
def sameB : Syn → Syn → Bool
  | .mk k t n _ l, .mk k' t' n' _ l' => decide (k = k') && (t == t') && decide (n = n') && sameL l l'
where
  sameL : List Syn → List Syn → Bool
  | [], [] => true
  | x :: l, y :: m => sameB x y && sameL l m
  | _, _ => false
abbrev sameL := sameB.sameL
theorem sameB_mk {k k' n n' a b : Int} {t t' : List UInt8} {l l' : List Syn} : sameB (.mk k t n a l) (.mk k' t' n' b l') = (decide (k = k') && (t == t') && decide (n = n') && sameL l l') := by rw [sameB]
theorem sameL_nil : sameL [] [] = true := by show sameB.sameL [] [] = true; simp only [sameB.sameL]
theorem sameL_cons {x y : Syn} {l m : List Syn} : sameL (x :: l) (y :: m) = (sameB x y && sameL l m) := by show sameB.sameL (x :: l) (y :: m) = _; simp only [sameB.sameL]
theorem sameL_len : ∀ {l m : List Syn}, sameL l m = true → l.length = m.length
  | [], [], _ => rfl
  | x :: l, y :: m, h => by
    rw [sameL_cons, Bool.and_eq_true] at h
    rw [List.length_cons, List.length_cons, sameL_len h.2]
  | [], y :: m, h => by
    have : sameL [] (y :: m) = false := by show sameB.sameL [] (y :: m) = false; simp only [sameB.sameL]
    rw [this] at h; cases h
  | x :: l, [], h => by
    have : sameL (x :: l) [] = false := by show sameB.sameL (x :: l) [] = false; simp only [sameB.sameL]
    rw [this] at h; cases h
theorem sameL_at {l m : List Syn} {j : Nat} (h : j < l.length) (h' : j < m.length) : sameL (l.drop j) (m.drop j) = (sameB l[j] m[j] && sameL (l.drop (j + 1)) (m.drop (j + 1))) := by
  rw [List.drop_eq_getElem_cons h, List.drop_eq_getElem_cons h', sameL_cons]
theorem same_no {x y : Syn} (h : ¬ (x.kind = y.kind ∧ x.text = y.text ∧ x.num = y.num ∧ x.kids.length = y.kids.length)) : sameB x y = false := by
  rcases x with ⟨k, t, n, a, l⟩
  rcases y with ⟨k', t', n', b, l'⟩
  cases hc : sameB (.mk k t n a l) (.mk k' t' n' b l') with
  | false => rfl
  | true =>
    rw [sameB_mk] at hc
    simp only [Bool.and_eq_true, decide_eq_true_eq, beq_iff_eq] at hc
    exact absurd ⟨hc.1.1.1, hc.1.1.2, hc.1.2, sameL_len hc.2⟩ h
theorem same_any : ∀ (m : Nat) (x y : Syn), SizeOf.sizeOf x < m → Mod x → ∀ (q q' : Option Addr) (d d' : Nat) (w : World), KidR w x.kids (.slice q x.kids.length d) → KidR w y.kids (.slice q' y.kids.length d') →
    Calls Tryz.prog 18 #[nodeV x q d, nodeV y q' d'] w (VPost w (sameB x y)) := by
  intro m
  induction m with
  | zero => intro x y h; omega
  | succ m ih =>
    intro x y hm hM q q' d d' w hx hy
    obtain ⟨k, tx, n, a, xs⟩ := x
    obtain ⟨k', tx', n', b, ys⟩ := y
    replace hx : KidR w xs (.slice q xs.length d) := hx
    replace hy : KidR w ys (.slice q' ys.length d') := hy
    show Calls Tryz.prog 18 #[(Value.agg #[.int .i64 k, .string ⟨List.toArray tx⟩, .int .i64 n, .int .i64 a, .slice q xs.length d]), (Value.agg #[.int .i64 k', .string ⟨List.toArray tx'⟩, .int .i64 n', .int .i64 b, .slice q' ys.length d'])] w _
    obtain ⟨res, hr⟩ : ∃ r, Hid (r = sameB (.mk k tx n a xs) (.mk k' tx' n' b ys)) := ⟨_, Lib.hid rfl⟩
    rw [← hr.out]
    by_cases hk : k = k'
    case neg =>
      replace hr := Lib.hid (hr.out.trans (same_no fun h => hk h.1))
      have hkb : (k == k') = false := by rw [beq_eq_false_iff_ne]; exact hk
      replace hk := Lib.hid hk
      clear hx hy hM ih hm
      have hB1 := boxed_below w k tx n a q xs.length d
      have hs1 : (boxed w k tx n a q xs.length d).heap.size = w.heap.size + 1 := World.size_alloc ..
      have hB := hB1.trans ((boxed_below (boxed w k tx n a q xs.length d) k' tx' n' b q' ys.length d').mono (by rw [hs1]; omega))
      have hC := five_low (five (boxed_new w k tx n a q xs.length d)) (boxed_below (boxed w k tx n a q xs.length d) k' tx' n' b q' ys.length d')
      have hD := five (boxed_new (boxed w k tx n a q xs.length d) k' tx' n' b q' ys.length d')
      rw [hs1] at hD
      clear hB1 hs1
      unfold boxed at hB hC hD
      go_enter Tryz.func18, Tryz.ntmps18
      go_upto_region 1 with (fail)
      generalize World.alloc (World.alloc w _) _ = w1 at hB hC hD ⊢
      generalize w.heap.size + 1 = N1 at hD ⊢
      obtain ⟨c0, c1, c2, c3, c4⟩ := hC
      obtain ⟨d0, d1, d2, d3, d4⟩ := hD
      replace hB := Lib.hid hB
      go_wp2_with fail
      all_goals
        go_ret
        exact ⟨ret_b hr.out.symm, hB.out⟩
    subst hk
    by_cases ht : tx = tx'
    case neg =>
      replace hr := Lib.hid (hr.out.trans (same_no fun h => ht h.2.1))
      have hkb : (tx == tx') = false := by rw [beq_eq_false_iff_ne]; exact ht
      replace ht := Lib.hid ht
      clear hx hy hM ih hm
      have hB1 := boxed_below w k tx n a q xs.length d
      have hs1 : (boxed w k tx n a q xs.length d).heap.size = w.heap.size + 1 := World.size_alloc ..
      have hB := hB1.trans ((boxed_below (boxed w k tx n a q xs.length d) k tx' n' b q' ys.length d').mono (by rw [hs1]; omega))
      have hC := five_low (five (boxed_new w k tx n a q xs.length d)) (boxed_below (boxed w k tx n a q xs.length d) k tx' n' b q' ys.length d')
      have hD := five (boxed_new (boxed w k tx n a q xs.length d) k tx' n' b q' ys.length d')
      rw [hs1] at hD
      clear hB1 hs1
      unfold boxed at hB hC hD
      go_enter Tryz.func18, Tryz.ntmps18
      go_upto_region 1 with (fail)
      generalize World.alloc (World.alloc w _) _ = w1 at hB hC hD ⊢
      generalize w.heap.size + 1 = N1 at hD ⊢
      obtain ⟨c0, c1, c2, c3, c4⟩ := hC
      obtain ⟨d0, d1, d2, d3, d4⟩ := hD
      replace hB := Lib.hid hB
      go_wp2_with fail
      all_goals
        go_ret
        exact ⟨ret_b hr.out.symm, hB.out⟩
    subst ht
    by_cases hn : n = n'
    case neg =>
      replace hr := Lib.hid (hr.out.trans (same_no fun h => hn h.2.2.1))
      have hnb : (n == n') = false := by rw [beq_eq_false_iff_ne]; exact hn
      replace hn := Lib.hid hn
      clear hx hy hM ih hm
      have hB1 := boxed_below w k tx n a q xs.length d
      have hs1 : (boxed w k tx n a q xs.length d).heap.size = w.heap.size + 1 := World.size_alloc ..
      have hB := hB1.trans ((boxed_below (boxed w k tx n a q xs.length d) k tx n' b q' ys.length d').mono (by rw [hs1]; omega))
      have hC := five_low (five (boxed_new w k tx n a q xs.length d)) (boxed_below (boxed w k tx n a q xs.length d) k tx n' b q' ys.length d')
      have hD := five (boxed_new (boxed w k tx n a q xs.length d) k tx n' b q' ys.length d')
      rw [hs1] at hD
      clear hB1 hs1
      unfold boxed at hB hC hD
      go_enter Tryz.func18, Tryz.ntmps18
      go_upto_region 1 with (fail)
      generalize World.alloc (World.alloc w _) _ = w1 at hB hC hD ⊢
      generalize w.heap.size + 1 = N1 at hD ⊢
      obtain ⟨c0, c1, c2, c3, c4⟩ := hC
      obtain ⟨d0, d1, d2, d3, d4⟩ := hD
      replace hB := Lib.hid hB
      go_wp2_with fail
      all_goals
        go_ret
        exact ⟨ret_b hr.out.symm, hB.out⟩
    subst hn
    by_cases hl : xs.length = ys.length
    case neg =>
      replace hr := Lib.hid (hr.out.trans (same_no fun h => hl h.2.2.2))
      have hlb : ((xs.length : Int) == (ys.length : Int)) = false := by rw [beq_eq_false_iff_ne]; omega
      have hli : ¬ (xs.length : Int) = (ys.length : Int) := by omega
      replace hl := Lib.hid hl
      clear hx hy hM ih hm
      have hB1 := boxed_below w k tx n a q xs.length d
      have hs1 : (boxed w k tx n a q xs.length d).heap.size = w.heap.size + 1 := World.size_alloc ..
      have hB := hB1.trans ((boxed_below (boxed w k tx n a q xs.length d) k tx n b q' ys.length d').mono (by rw [hs1]; omega))
      have hC := five_low (five (boxed_new w k tx n a q xs.length d)) (boxed_below (boxed w k tx n a q xs.length d) k tx n b q' ys.length d')
      have hD := five (boxed_new (boxed w k tx n a q xs.length d) k tx n b q' ys.length d')
      rw [hs1] at hD
      clear hB1 hs1
      unfold boxed at hB hC hD
      go_enter Tryz.func18, Tryz.ntmps18
      go_upto_region 1 with (fail)
      generalize World.alloc (World.alloc w _) _ = w1 at hB hC hD ⊢
      generalize w.heap.size + 1 = N1 at hD ⊢
      obtain ⟨c0, c1, c2, c3, c4⟩ := hC
      obtain ⟨d0, d1, d2, d3, d4⟩ := hD
      replace hB := Lib.hid hB
      go_wp2_with fail
      all_goals
        go_ret
        exact ⟨ret_b hr.out.symm, hB.out⟩
    replace hr := Lib.hid (hr.out.trans (show _ = sameL xs ys by rw [sameB_mk]; simp))
    have hlb : ((xs.length : Int) == (ys.length : Int)) = true := by rw [beq_iff_eq]; omega
    have hml : xs.length ≤ 100000 := hM.len
    have hMk := hM.kid
    simp only [Syn.mk.sizeOf_spec] at hm
    rw [← hl] at hy hlb ⊢
    replace hl := Lib.hid hl
    replace ih := Lib.hid ih
    replace hMk := Lib.hid hMk
    have hB1 := boxed_below w k tx n a q xs.length d
    have hs1 : (boxed w k tx n a q xs.length d).heap.size = w.heap.size + 1 := World.size_alloc ..
    have hB := hB1.trans ((boxed_below (boxed w k tx n a q xs.length d) k tx n b q' xs.length d').mono (by rw [hs1]; omega))
    have hC := five_low (five (boxed_new w k tx n a q xs.length d)) (boxed_below (boxed w k tx n a q xs.length d) k tx n b q' xs.length d')
    have hD := five (boxed_new (boxed w k tx n a q xs.length d) k tx n b q' xs.length d')
    rw [hs1] at hD
    have hx1 := hx.low hB
    have hy1 := hy.low hB
    clear hB1 hs1 hx hy
    unfold boxed at hB hC hD hx1 hy1
    go_enter Tryz.func18, Tryz.ntmps18
    go_upto_region 3 with (fail)
    generalize World.alloc (World.alloc w _) _ = w1 at hB hC hD hx1 hy1 ⊢
    generalize w.heap.size + 1 = N1 at hD ⊢
    replace hB := Lib.hid hB
    replace hx1 := Lib.hid hx1
    replace hy1 := Lib.hid hy1
    replace hC := Lib.hid (fun W (h : Below w1.heap.size w1 W) => five_low hC h)
    replace hD := Lib.hid (fun W (h : Below w1.heap.size w1 W) => five_low hD h)
    go_wp2_with fail
    go_loopw [5] (fun i wr => (∃ j : Nat, j ≤ xs.length ∧ i = .int .i64 j ∧ Hid (sameL xs ys = sameL (xs.drop j) (ys.drop j))) ∧ Hid (Below w1.heap.size w1 wr)) (fun i _ => xs.length - (intOf i).toNat)
    case atStart => exact ⟨⟨0, by omega, rfl, Lib.hid rfl⟩, Lib.hid (Below.refl w1.heap.size w1)⟩
    case round =>
      obtain ⟨⟨j, hj, rfl, hsj⟩, hbw⟩ := hrel
      obtain ⟨c0, c1, c2, c3, c4⟩ := hC.out wr hbw.out
      obtain ⟨d0, d1, d2, d3, d4⟩ := hD.out wr hbw.out
      by_cases hlt : j < xs.length
      · have hlt' : j < ys.length := by have := hl.out; omega
        have hbd : Below w1.heap.size w1 wr.drew := below_drawn hbw.out 1
        obtain ⟨-, -, -, -, e4⟩ := hC.out _ hbd
        obtain ⟨-, -, -, -, f4⟩ := hD.out _ hbd
        obtain ⟨g, o, u, v, rfl, hu, hku⟩ := (hx1.out.low hbd).get j hlt
        obtain ⟨g', o', u', v', rfl, hu', hku'⟩ := (hy1.out.low hbd).get j hlt'
        have hsz := List.sizeOf_lt_of_mem (List.getElem_mem hlt)
        have hcall := ih.out xs[j] ys[j] (by omega) (hMk.out _ (List.getElem_mem hlt)) u u' v v' wr.drew hku hku'
        have hst := sameL_at hlt hlt'
        rw [hsj.out] at hr
        replace hr := Lib.hid (hr.out.trans hst)
        replace hsj := Lib.hid (hsj.out.trans hst)
        clear hst hsz hku hku'
        generalize xs[j] = x at hcall hu hr hsj
        generalize ys[j] = y at hcall hu' hr hsj
        obtain ⟨u0, u1, u2, u3, u4⟩ := hu
        obtain ⟨v0, v1, v2, v3, v4⟩ := hu'
        replace hbd := Lib.hid hbd
        replace hcall := Lib.hid hcall
        cases hsb : sameB x y with
        | false =>
          rw [hsb] at hcall
          replace hr := Lib.hid (hr.out.trans (by rw [hsb]; first | done | rfl))
          replace hsb := Lib.hid hsb
          go_wp2_with fail
          go_region_with (go_at_call 18; (with_reducible refine (hcall.out).mono ?_); rintro e w3 ⟨rfl, b3⟩; replace b3 := Lib.hid b3)
          all_goals
            go_wp2_with fail
            refine bodyPost_ret (v := .bool false) (by simp [results, Tryz.results18, go_sem]) rfl ⟨ret_b hr.out.symm, hB.out.trans ((hbd.out.trans (b3.out.mono hbd.out.size)).mono hB.out.size)⟩
        | true =>
          rw [hsb] at hcall
          have hsj' := Lib.hid (hsj.out.trans (by rw [hsb]; first | done | exact Bool.true_and _))
          replace hsb := Lib.hid hsb
          go_wp2_with fail
          go_region_with (go_at_call 18; (with_reducible refine (hcall.out).mono ?_); rintro e w3 ⟨rfl, b3⟩; replace b3 := Lib.hid b3)
          all_goals
            go_wp2_with fail
            go_roundw
            case rel => exact ⟨⟨j + 1, by omega, by go_num, hsj'⟩, Lib.hid (hbd.out.trans (b3.out.mono hbd.out.size))⟩
            case measure => simp [intOf]; omega
      · have hE : sameL xs ys = true := by
          rw [hsj.out, List.drop_eq_nil_of_le (by omega), List.drop_eq_nil_of_le (by have := hl.out; omega)]; exact sameL_nil
        go_wp2_with fail
        refine bodyPost_ret (v := .bool true) (by simp [results, Tryz.results18, go_sem]) rfl ⟨ret_b (hr.out.trans hE).symm, hB.out.trans (hbw.out.mono hB.out.size)⟩
end Go.Proofs.YtplbfmcgddnkeaaGreatDoor
end
section
set_option maxHeartbeats 4000000
set_option maxRecDepth 100000
namespace Go.Proofs.YtplbfmcgddnkeaaGreatDoor
open Go.RowKit
def tot : Syn → Nat → Nat
  | .mk _ _ _ _ l, L => totL l L 1
where
  totL : List Syn → Nat → Nat → Nat
  | [], _, n => n
  | x :: l, L, n => if n ≤ L then totL l L (n + tot x (L - n)) else n
abbrev totL := tot.totL
theorem tot_mk {k n a : Int} {t : List UInt8} {l : List Syn} {L : Nat} : tot (.mk k t n a l) L = totL l L 1 := by rw [tot]
theorem totL_nil {L n : Nat} : totL [] L n = n := by show tot.totL [] L n = n; simp only [tot.totL]
theorem totL_cons {x : Syn} {l : List Syn} {L n : Nat} : totL (x :: l) L n = if n ≤ L then totL l L (n + tot x (L - n)) else n := by show tot.totL (x :: l) L n = _; simp only [tot.totL]
mutual
theorem tot_le : ∀ (x : Syn) (L : Nat), 1 ≤ tot x L ∧ tot x L ≤ L + 1
  | .mk _ _ _ _ l, L => by rw [tot_mk]; exact totL_le l L 1 (by omega) (by omega)
theorem totL_le : ∀ (l : List Syn) (L n : Nat), 1 ≤ n → n ≤ L + 1 → n ≤ totL l L n ∧ totL l L n ≤ L + 1
  | [], L, n, h, h' => by rw [totL_nil]; omega
  | x :: l, L, n, h, h' => by
    rw [totL_cons]
    split
    · have h1 := tot_le x (L - n)
      have h2 := totL_le l L (n + tot x (L - n)) (by omega) (by omega)
      omega
    · omega
end
def shortB : Syn → Bool
  | .mk _ t _ _ l => decide (t.length ≤ 100) && shortL l
where
  shortL : List Syn → Bool
  | [] => true
  | x :: l => shortB x && shortL l
abbrev shortL := shortB.shortL
theorem shortB_mk {k n a : Int} {t : List UInt8} {l : List Syn} : shortB (.mk k t n a l) = (decide (t.length ≤ 100) && shortL l) := by rw [shortB]
theorem shortL_nil : shortL [] = true := by show shortB.shortL [] = true; simp only [shortB.shortL]
theorem shortL_cons {x : Syn} {l : List Syn} : shortL (x :: l) = (shortB x && shortL l) := by show shortB.shortL (x :: l) = _; simp only [shortB.shortL]
def fewB (t : Syn) : Bool := decide (tot t 200 ≤ 200) && shortB t
def cnt : Syn → Nat
  | .mk _ _ _ _ l => 1 + cntL l
where
  cntL : List Syn → Nat
  | [] => 0
  | x :: l => cnt x + cntL l
abbrev cntL := cnt.cntL
theorem cnt_mk {k n a : Int} {t : List UInt8} {l : List Syn} : cnt (.mk k t n a l) = 1 + cntL l := by rw [cnt]
theorem cntL_nil : cntL [] = 0 := by show cnt.cntL [] = 0; simp only [cnt.cntL]
theorem cntL_cons {x : Syn} {l : List Syn} : cntL (x :: l) = cnt x + cntL l := by show cnt.cntL (x :: l) = _; simp only [cnt.cntL]
theorem cnt_pos (x : Syn) : 1 ≤ cnt x := by rcases x with ⟨a, b, c, d, e⟩; rw [cnt_mk]; omega
theorem cntL_len : ∀ l : List Syn, l.length ≤ cntL l
  | [] => by simp
  | x :: r => by
    have h1 := cntL_len r
    have h2 := cnt_pos x
    rw [cntL_cons, List.length_cons]; omega
theorem cntL_mem : ∀ {l : List Syn} {x : Syn}, x ∈ l → cnt x ≤ cntL l
  | [], x, h => (List.not_mem_nil h).elim
  | y :: r, x, h => by
    rw [cntL_cons]
    rcases List.mem_cons.1 h with rfl | h
    · omega
    · have := cntL_mem h; omega
mutual
theorem tot_cnt : ∀ (x : Syn) (L : Nat), tot x L ≤ L → tot x L = cnt x
  | .mk _ _ _ _ l, L, h => by rw [tot_mk] at h ⊢; rw [cnt_mk]; exact totL_cnt l L 1 (by omega) (by have := (totL_le l L 1 (by omega)); omega) h
theorem totL_cnt : ∀ (l : List Syn) (L n : Nat), 1 ≤ n → n ≤ L + 1 → totL l L n ≤ L → totL l L n = n + cntL l
  | [], L, n, h, h', _ => by rw [totL_nil, cntL_nil]; omega
  | x :: l, L, n, h, h', hl => by
    have h1 := tot_le x (L - n)
    rw [totL_cons] at hl ⊢
    rw [cntL_cons]
    split
    · rename_i hn
      rw [if_pos hn] at hl
      have h2 := totL_le l L (n + tot x (L - n)) (by omega) (by omega)
      have h3 := totL_cnt l L (n + tot x (L - n)) (by omega) (by omega) hl
      have h4 := tot_cnt x (L - n) (by omega)
      omega
    · rename_i hn
      rw [if_neg hn] at hl
      omega
end
mutual
theorem few_mass : ∀ (x : Syn), shortB x = true → mass x ≤ 270 * cnt x
  | .mk _ _ _ _ l, h => by
    rw [shortB_mk, Bool.and_eq_true, decide_eq_true_eq] at h
    have := few_massL l h.2
    rw [mass_mk, cnt_mk]; omega
theorem few_massL : ∀ (l : List Syn), shortL l = true → massL l ≤ 270 * cntL l
  | [], _ => by rw [massL_nil]; omega
  | x :: l, h => by
    rw [shortL_cons, Bool.and_eq_true] at h
    have h1 := few_mass x h.1
    have h2 := few_massL l h.2
    rw [massL_cons, cntL_cons]; omega
end
theorem few_light {t : Syn} (h : fewB t = true) : mass t ≤ 54000 := by
  unfold fewB at h
  rw [Bool.and_eq_true, decide_eq_true_eq] at h
  have h1 := tot_cnt t 200 h.1
  have h2 := few_mass t h.2
  omega
theorem few_mod {t : Syn} (h : fewB t = true) : Mod t := mod_of_mass _ t (Nat.lt_succ_self _) (by have := few_light h; omega)
theorem totL_at {l : List Syn} {L n j : Nat} (h : j < l.length) : totL (l.drop j) L n = if n ≤ L then totL (l.drop (j + 1)) L (n + tot l[j] (L - n)) else n := by
  rw [List.drop_eq_getElem_cons h, totL_cons]
theorem shortL_at {l : List Syn} {j : Nat} (h : j < l.length) : shortL (l.drop j) = (shortB l[j] && shortL (l.drop (j + 1))) := by
  rw [List.drop_eq_getElem_cons h, shortL_cons]
theorem total_any : ∀ (m : Nat) (t : Syn), SizeOf.sizeOf t < m → ∀ (L : Nat), L ≤ 200 → ∀ (q : Option Addr) (d : Nat) (w : World), KidR w t.kids (.slice q t.kids.length d) →
    Calls Tryz.prog 29 #[nodeV t q d, .int .i64 L] w (IPost w (tot t L)) := by
  intro m
  induction m with
  | zero => intro t h; omega
  | succ m ih =>
    intro t hm L hL q d w hks
    obtain ⟨k, tx, n, a, ks⟩ := t
    replace hks : KidR w ks (.slice q ks.length d) := hks
    show Calls Tryz.prog 29 #[(Value.agg #[.int .i64 k, .string ⟨List.toArray tx⟩, .int .i64 n, .int .i64 a, .slice q ks.length d]), .int .i64 L] w _
    obtain ⟨res, hr⟩ : ∃ r, Hid (r = tot (.mk k tx n a ks) L) := ⟨_, Lib.hid rfl⟩
    rw [← hr.out]
    replace hr := Lib.hid (hr.out.trans tot_mk)
    simp only [Syn.mk.sizeOf_spec] at hm
    replace ih := Lib.hid ih
    have hB := boxed_below w k tx n a q ks.length d
    have hC := five (boxed_new w k tx n a q ks.length d)
    have hx1 := hks.low hB
    clear hks
    unfold boxed at hB hC hx1
    go_enter Tryz.func29, Tryz.ntmps29
    go_upto_region 2 with (fail)
    generalize World.alloc w _ = w1 at hB hC hx1 ⊢
    replace hB := Lib.hid hB
    replace hx1 := Lib.hid hx1
    replace hC := Lib.hid (fun W (h : Below w1.heap.size w1 W) => five_low hC h)
    go_wp2_with fail
    go_loopw [5, 6] (fun s5 s6 wr => (∃ j v : Nat, j ≤ ks.length ∧ j < v ∧ v ≤ L + 1 ∧ s5 = .int .i64 v ∧ s6 = .int .i64 j ∧ Hid (totL ks L 1 = totL (ks.drop j) L v)) ∧ Hid (Below w1.heap.size w1 wr)) (fun _ s6 _ => ks.length - (intOf s6).toNat)
    case atStart => exact ⟨⟨0, 1, by omega, by omega, by omega, rfl, rfl, Lib.hid rfl⟩, Lib.hid (Below.refl w1.heap.size w1)⟩
    case round =>
      obtain ⟨⟨j, v, hj, hv1, hv2, rfl, rfl, hsj⟩, hbw⟩ := hrel
      obtain ⟨c0, c1, c2, c3, c4⟩ := hC.out wr hbw.out
      by_cases hlt : j < ks.length
      · have hst := totL_at (L := L) (n := v) hlt
        by_cases hvL : v ≤ L
        · have hvi : (v : Int) ≤ L := by omega
          have hji : (j : Int) < ks.length := by omega
          rw [if_pos hvL] at hst
          obtain ⟨g, o, u, c, rfl, hu, hku⟩ := (hx1.out.low hbw.out).get j hlt
          have hsz := List.sizeOf_lt_of_mem (List.getElem_mem hlt)
          have hcall := ih.out ks[j] (by omega) (L - v) (by omega) u c wr hku
          have hle := tot_le ks[j] (L - v)
          replace hsj := Lib.hid (hsj.out.trans hst)
          clear hst hsz hku
          generalize ks[j] = x at hcall hu hsj hle
          obtain ⟨u0, u1, u2, u3, u4⟩ := hu
          generalize tot x (L - v) = tx1 at hcall hsj hle
          rw [show (((L - v : Nat) : Int)) = (L : Int) - v by omega] at hcall
          replace hcall := Lib.hid hcall
          go_wp2_with (first | (go_at_call 29; (with_reducible refine (hcall.out).mono ?_); rintro e w3 ⟨rfl, b3⟩; replace b3 := Lib.hid b3))
          go_roundw
          case rel => exact ⟨⟨j + 1, v + tx1, by omega, by omega, by omega, by go_num, by go_num, hsj⟩, Lib.hid (hbw.out.trans (b3.out.mono hbw.out.size))⟩
          case measure => simp [intOf]; omega
        · have hvi : ¬ (v : Int) ≤ L := by omega
          have hji : (j : Int) < ks.length := by omega
          rw [if_neg hvL] at hst
          go_wp2_with fail
          refine bodyPost_ret (v := .int .i64 v) (by simp [results, Tryz.results29, go_sem]) rfl ⟨?_, hB.out.trans (hbw.out.mono hB.out.size)⟩
          rw [hr.out, hsj.out, hst]
      · have hji : ¬ (j : Int) < ks.length := by omega
        go_wp2_with fail
        refine bodyPost_ret (v := .int .i64 v) (by simp [results, Tryz.results29, go_sem]) rfl ⟨?_, hB.out.trans (hbw.out.mono hB.out.size)⟩
        rw [hr.out, hsj.out, List.drop_eq_nil_of_le (by omega), totL_nil]
theorem short_any : ∀ (m : Nat) (t : Syn), SizeOf.sizeOf t < m → cnt t ≤ 200 → ∀ (q : Option Addr) (d : Nat) (w : World), KidR w t.kids (.slice q t.kids.length d) →
    Calls Tryz.prog 30 #[nodeV t q d] w (VPost w (shortB t)) := by
  intro m
  induction m with
  | zero => intro t h; omega
  | succ m ih =>
    intro t hm hcn q d w hks
    obtain ⟨k, tx, n, a, ks⟩ := t
    replace hks : KidR w ks (.slice q ks.length d) := hks
    show Calls Tryz.prog 30 #[(Value.agg #[.int .i64 k, .string ⟨List.toArray tx⟩, .int .i64 n, .int .i64 a, .slice q ks.length d])] w _
    obtain ⟨res, hr⟩ : ∃ r, Hid (r = shortB (.mk k tx n a ks)) := ⟨_, Lib.hid rfl⟩
    rw [← hr.out]
    replace hr := Lib.hid (hr.out.trans shortB_mk)
    rw [cnt_mk] at hcn
    have hcl := cntL_len ks
    have hcm : ∀ j (hj : j < ks.length), cnt ks[j] ≤ 200 := fun j hj => by have := cntL_mem (List.getElem_mem hj); omega
    simp only [Syn.mk.sizeOf_spec] at hm
    replace ih := Lib.hid ih
    replace hcm := Lib.hid hcm
    have hB := boxed_below w k tx n a q ks.length d
    have hC := five (boxed_new w k tx n a q ks.length d)
    have hx1 := hks.low hB
    clear hks
    unfold boxed at hB hC hx1
    go_enter Tryz.func30, Tryz.ntmps30
    go_upto_region 1 with (fail)
    generalize World.alloc w _ = w1 at hB hC hx1 ⊢
    replace hB := Lib.hid hB
    replace hx1 := Lib.hid hx1
    replace hC := Lib.hid (fun W (h : Below w1.heap.size w1 W) => five_low hC h)
    obtain ⟨c0, c1, c2, c3, c4⟩ := hC.out w1 (Below.refl _ _)
    by_cases h1 : tx.length ≤ 100
    case neg =>
      have hi : (100 : Int) < tx.length := by omega
      replace hr := Lib.hid (hr.out.trans (show _ = false by rw [decide_eq_false h1]; rfl))
      go_wp2_with fail
      all_goals
        go_ret
        exact ⟨ret_b hr.out.symm, hB.out⟩
    have hi : ¬ (100 : Int) < tx.length := by omega
    replace hr := Lib.hid (hr.out.trans (show _ = shortL ks by rw [decide_eq_true h1]; rfl))
    go_upto_region 3 with (fail)
    clear c0 c1 c2 c3 c4
    go_wp2_with fail
    go_loopw [3] (fun s6 wr => (∃ j : Nat, j ≤ ks.length ∧ s6 = .int .i64 j ∧ Hid (shortL ks = shortL (ks.drop j))) ∧ Hid (Below w1.heap.size w1 wr)) (fun s6 _ => ks.length - (intOf s6).toNat)
    case atStart => exact ⟨⟨0, by omega, rfl, Lib.hid rfl⟩, Lib.hid (Below.refl w1.heap.size w1)⟩
    case round =>
      obtain ⟨⟨j, hj, rfl, hsj⟩, hbw⟩ := hrel
      obtain ⟨c0, c1, c2, c3, c4⟩ := hC.out wr hbw.out
      by_cases hlt : j < ks.length
      · have hst := shortL_at hlt
        have hji : (j : Int) < ks.length := by omega
        obtain ⟨g, o, u, c, rfl, hu, hku⟩ := (hx1.out.low hbw.out).get j hlt
        have hsz := List.sizeOf_lt_of_mem (List.getElem_mem hlt)
        have hcall := ih.out ks[j] (by omega) (hcm.out j hlt) u c wr hku
        replace hsj := Lib.hid (hsj.out.trans hst)
        clear hst hsz hku
        generalize ks[j] = x at hcall hu hsj
        obtain ⟨u0, u1, u2, u3, u4⟩ := hu
        replace hcall := Lib.hid hcall
        cases hsb : shortB x with
        | false =>
          rw [hsb] at hcall
          have hr2 := Lib.hid (hr.out.trans (hsj.out.trans (show _ = false by rw [hsb]; first | done | rfl)))
          replace hsb := Lib.hid hsb
          go_wp2_with (first | (go_at_call 30; (with_reducible refine (hcall.out).mono ?_); rintro e w3 ⟨rfl, b3⟩; replace b3 := Lib.hid b3))
          refine bodyPost_ret (v := .bool false) (by simp [results, Tryz.results30, go_sem]) rfl ⟨ret_b hr2.out.symm, hB.out.trans ((hbw.out.trans (b3.out.mono hbw.out.size)).mono hB.out.size)⟩
        | true =>
          rw [hsb] at hcall
          have hsj' := Lib.hid (hsj.out.trans (by rw [hsb]; first | done | exact Bool.true_and _))
          replace hsb := Lib.hid hsb
          go_wp2_with (first | (go_at_call 30; (with_reducible refine (hcall.out).mono ?_); rintro e w3 ⟨rfl, b3⟩; replace b3 := Lib.hid b3))
          go_roundw
          case rel => exact ⟨⟨j + 1, by omega, by go_num, hsj'⟩, Lib.hid (hbw.out.trans (b3.out.mono hbw.out.size))⟩
          case measure => simp [intOf]; omega
      · have hji : ¬ (j : Int) < ks.length := by omega
        go_wp2_with fail
        refine bodyPost_ret (v := .bool true) (by simp [results, Tryz.results30, go_sem]) rfl ⟨?_, hB.out.trans (hbw.out.mono hB.out.size)⟩
        refine ret_b ?_
        rw [hr.out, hsj.out, List.drop_eq_nil_of_le (by omega), shortL_nil]
theorem few_any (t : Syn) (p : Option Addr) (c : Nat) (w : World) (hks : KidR w t.kids (.slice p t.kids.length c)) : Calls Tryz.prog 9 #[nodeV t p c] w (VPost w (fewB t)) := by
  have hT := fun W (hb : Below w.heap.size w W) => total_any _ t (Nat.lt_succ_self _) 200 (by omega) p c W (hks.low hb)
  have hS := fun (hc : cnt t ≤ 200) W (hb : Below w.heap.size w W) => short_any _ t (Nat.lt_succ_self _) hc p c W (hks.low hb)
  have hc2 : tot t 200 ≤ 200 → cnt t ≤ 200 := fun h => by rw [← tot_cnt t 200 h]; exact h
  obtain ⟨res, hr⟩ : ∃ r, Hid (r = fewB t) := ⟨_, Lib.hid rfl⟩
  rw [← hr.out]
  replace hr := Lib.hid (hr.out.trans (show _ = (decide (tot t 200 ≤ 200) && shortB t) from rfl))
  generalize tot t 200 = tt at *
  generalize shortB t = sb at *
  generalize cnt t = cc at *
  obtain ⟨k, tx, n, a, ks⟩ := t
  replace hT : ∀ W, Below w.heap.size w W → Calls Tryz.prog 29 #[(Value.agg #[.int .i64 k, .string ⟨List.toArray tx⟩, .int .i64 n, .int .i64 a, .slice p ks.length c]), .int .i64 200] W (IPost W tt) := hT
  replace hS : cc ≤ 200 → ∀ W, Below w.heap.size w W → Calls Tryz.prog 30 #[(Value.agg #[.int .i64 k, .string ⟨List.toArray tx⟩, .int .i64 n, .int .i64 a, .slice p ks.length c])] W (VPost W sb) := hS
  show Calls Tryz.prog 9 #[(Value.agg #[.int .i64 k, .string ⟨List.toArray tx⟩, .int .i64 n, .int .i64 a, .slice p ks.length c])] w _
  clear hks
  generalize ks.length = m at *
  replace hT := Lib.hid hT
  have hB := boxed_below w k tx n a p m c
  have hC := boxed_new w k tx n a p m c
  unfold boxed at hB hC
  go_enter Tryz.func9, Tryz.ntmps9
  go_upto_region 1 with (fail)
  generalize World.alloc w _ = w1 at hB hC ⊢
  obtain ⟨c0, c1, c2, c3, c4⟩ := five hC
  replace hB := Lib.hid hB
  replace hC := Lib.hid hC
  by_cases h2 : tt ≤ 200
  · have hi : (tt : Int) ≤ 200 := by omega
    replace hS := Lib.hid (hS (hc2 h2))
    replace hr := Lib.hid (hr.out.trans (show _ = sb by rw [decide_eq_true h2]; rfl))
    replace h2 := Lib.hid h2
    have hF := Lib.hid (fun W (h : Below w1.heap.size w1 W) => five_low ⟨c0, c1, c2, c3, c4⟩ h)
    go_wp2_with (first | (go_at_call 29; (with_reducible refine (hT.out _ hB.out).mono ?_); rintro e x2 ⟨rfl, b2⟩; have hB2 := Lib.hid (hB.out.trans (b2.mono hB.out.size)); obtain ⟨d0, d1, d2, d3, d4⟩ := hF.out x2 b2) | (go_at_call 30; (with_reducible refine (hS.out _ hB2.out).mono ?_); rintro e x3 ⟨rfl, b3⟩))
    all_goals
      go_ret
      exact ⟨ret_b hr.out.symm, hB2.out.trans (b3.mono hB2.out.size)⟩
  · have hi : ¬ (tt : Int) ≤ 200 := by omega
    replace hr := Lib.hid (hr.out.trans (show _ = false by rw [decide_eq_false h2]; rfl))
    replace h2 := Lib.hid h2
    go_wp2_with (first | (go_at_call 29; (with_reducible refine (hT.out _ hB.out).mono ?_); rintro e x2 ⟨rfl, b2⟩; have hB2 := Lib.hid (hB.out.trans (b2.mono hB.out.size))))
    all_goals
      go_ret
      exact ⟨ret_b hr.out.symm, hB2.out⟩
end Go.Proofs.YtplbfmcgddnkeaaGreatDoor
end
section
set_option maxHeartbeats 2000000
namespace Go.Proofs.YtplbfmcgddnkeaaGreatDoor
theorem spare_of {nt : NT} {wr : Syn → List UInt8} (hP : ∀ T i x j, PN T nt i x j → pb (wr x) + pc T i ≤ pc T j) {s : List UInt8} {u : Syn} {j : Nat} (h : parseO s (rdO nt) = .ok u j) : pb (wr u) ≤ pb s := by
  unfold parseO at h
  split at h
  · cases h
  · rename_i T hT
    have h1 : WO (fun u j => pb (wr u) ≤ pc T T.length) (whole T (rdO nt T)) := (rd_s (scan_TT hT).1 _ nt 0 0).bind fun x i hx => by
      split
      · have := hP _ _ _ _ hx
        have := pc_le T i
        show _ ≤ _
        omega
      · trivial
    rw [h] at h1
    have h1 : _ ≤ _ := h1
    have h2 : pc T T.length ≤ pb s := by
      unfold scan at hT
      split at hT
      · cases hT
      · unfold pc; rw [List.take_length]; exact scanGo_pb _ _ _ _ hT
    omega
theorem spare_c {s : List UInt8} {u : Syn} {j : Nat} (h : parseO s (rdO .cond) = .ok u j) : pb (wrc u) ≤ pb s := spare_of (nt := .cond) (fun T i x j (h : QS T 0 i x j ∧ _) => h.1.1) h
theorem spare_s {s : List UInt8} {u : Syn} {j : Nat} (h : parseO s (rdO .scheme) = .ok u j) : pb (wrs u) ≤ pb s := spare_of (nt := .scheme) (fun T i x j (h : QK T wrs 1 0 i x j) => h) h
theorem spare_f {s : List UInt8} {u : Syn} {j : Nat} (h : parseO s (rdO .formula) = .ok u j) : pb (wrf u) ≤ pb s := spare_of (nt := .formula) (fun T i x j (h : QK T wrf 2 0 i x j) => h) h
end Go.Proofs.YtplbfmcgddnkeaaGreatDoor
end
section
namespace Go.Proofs.YtplbfmcgddnkeaaGreatDoor
section
variable {s : List UInt8} {x : Syn} {j : Nat}
end
end Go.Proofs.YtplbfmcgddnkeaaGreatDoor
end
section
namespace Go.Proofs.YtplbfmcgddnkeaaGreatDoor
section
variable {U : List Tok} {f lv i j L : Nat} {x y a b : Syn} {A B K : List KT} {c : KT} {t : List UInt8}
def DL (xs : List Syn) (L : Nat) (o : Out (List Syn)) : Prop := match o with | .ok ys l => l = L ∧ TwinL Any xs ys | .err _ e => e = 12 | .none => True
theorem DL.bind {xs : List Syn} {z : Syn} {M : Nat} {o : Out (List Syn)} {g : List Syn → Nat → Out Syn} (h : DL xs L o) (hg : ∀ ys, TwinL Any xs ys → DN z M (g ys L)) : DN z M (o.bind g) := by
  cases o with
  | none => exact h
  | err p e => exact h
  | ok y l =>
    obtain ⟨rfl, h⟩ := h
    exact hg y h
end
theorem rdO_nn' (s : List UInt8) (nt : NT) : parseO s (rdO nt) ≠ .none := parseO_nn s _ fun T hT => rdO_nn hT nt 0 0 hT.pos
end Go.Proofs.YtplbfmcgddnkeaaGreatDoor
end
section
set_option maxHeartbeats 4000000
set_option maxRecDepth 100000
namespace Go.Proofs.YtplbfmcgddnkeaaGreatDoor
open Go.RowKit
abbrev five5 (t : Syn) (q : Option Addr) (d : Nat) : Array Value := #[.int .i64 t.kind, .string ⟨t.text.toArray⟩, .int .i64 t.num, .int .i64 t.pos, .slice q t.kids.length d]
theorem u8_bounds {a : Int} (h : (Lit.int .u8 a).wf = true) : 0 ≤ a ∧ a ≤ 255 := by
  have h1 : IntKind.u8.min = 0 := rfl
  have h2 : IntKind.u8.max = 255 := rfl
  simp only [Lit.wf, Bool.and_eq_true, decide_eq_true_eq] at h
  omega
theorem parseK_nn (k : Nat) (s : List UInt8) : parseO s (rdK k) ≠ .none := by
  unfold rdK
  split
  · exact parseO_nn s _ fun T hT => progR_nn hT
  · split
    · exact rdO_nn' _ _
    · split
      · exact rdO_nn' _ _
      · exact rdO_nn' _ _
theorem parseK_err {k : Nat} {s : List UInt8} {p : Int} {x : Nat} (h : parseO s (rdK k) = .err p x) : 0 < x := by
  unfold parseO at h
  split at h
  · rename_i d e hT
    injection h with h1 h2
    have := scan_err hT
    omega
  · rename_i T hT
    have h2 := whole_g (scan_asc hT) (rdK_g k T (scan_asc hT)) (scanned hT).pos
    rw [h] at h2
    obtain ⟨-, -, h | h⟩ := h2 <;> omega
end Go.Proofs.YtplbfmcgddnkeaaGreatDoor
end
section
set_option maxHeartbeats 2000000
namespace Go.Proofs.YtplbfmcgddnkeaaGreatDoor
theorem stand_text (s : List UInt8) : ∀ (ts : List Tok) (p : Nat), Stand s p ts → ∀ j, j < ts.length → ∃ a : Nat, (tk ts j).pos = a ∧ p ≤ a ∧ a + (tk ts j).text.length ≤ s.length ∧ (s.drop a).take (tk ts j).text.length = (tk ts j).text ∧
    ∀ k, j < k → k < ts.length → ((a + (tk ts j).text.length : Nat) : Int) ≤ (tk ts k).pos
  | [], p, _, j, h => absurd h (Nat.not_lt_zero _)
  | t :: r, p, h, j, hj => by
    obtain ⟨h1, h2, h3, h4, h5⟩ := h
    have e : ∀ j, tk (t :: r) (j + 1) = tk r j := fun j => rfl
    have e0 : tk (t :: r) 0 = t := rfl
    cases j with
    | zero =>
      refine ⟨_, h1, Nat.le_add_right _ _, h2, h3, fun k hk hkl => ?_⟩
      cases k with
      | zero => omega
      | succ k =>
        obtain ⟨a, q1, q2, -⟩ := stand_text s r _ h5 k (by simpa using hkl)
        rw [e, e0, q1]; omega
    | succ j =>
      obtain ⟨a, q1, q2, q3, q4, q5⟩ := stand_text s r _ h5 j (by simpa using hj)
      refine ⟨a, q1, by omega, q3, q4, fun k hk hkl => ?_⟩
      cases k with
      | zero => omega
      | succ k => exact q5 k (by omega) (by simpa using hkl)
def PairAt (s : List UInt8) (x : Nat × Nat) : Prop := x.1 < x.2 ∧ x.2 < s.length ∧ s[x.1]? = some 40
theorem pair_at {s : List UInt8} {T : List Tok} (hT : scan s = .ok T) {f i : Nat} (hfi : f < i) (hi : i < T.length) (hf : (tk T f).text = [40]) (hc : (tk T i).text = [41]) :
    ∃ x : Nat × Nat, (tk T f).pos = x.1 ∧ (tk T i).pos = x.2 ∧ PairAt s x := by
  obtain ⟨a, a1, a2, a3, a4, a5⟩ := stand_text s T 0 (scan_stand hT).1 f (by omega)
  obtain ⟨b, b1, b2, b3, b4, -⟩ := stand_text s T 0 (scan_stand hT).1 i hi
  have h1 := a5 i hfi hi
  rw [hf] at a3 a4 h1
  rw [hc] at b3
  simp only [List.length_cons, List.length_nil] at a3 a4 b3 h1
  refine ⟨(a, b), a1, b1, by show a < b; omega, by show b < s.length; omega, ?_⟩
  show s[a]? = some 40
  have := congrArg (fun l => l[0]?) a4
  simpa using this
theorem tok_in {s : List UInt8} {T : List Tok} (hT : scan s = .ok T) {i : Nat} (hi : i < T.length) : 0 ≤ (tk T i).pos ∧ (tk T i).pos ≤ s.length := by
  obtain ⟨a, a1, a2, a3, -⟩ := stand_text s T 0 (scan_stand hT).1 i hi
  rw [a1]; omega
theorem pb_less {s : List UInt8} {a b : Nat} (h : PairAt s (a, b)) : pb (s.take a) + pb ((s.take b).drop (a + 1)) + pb (s.drop (b + 1)) + 1 ≤ pb s := by
  obtain ⟨h1, h2, h3⟩ := h
  have h1 : a < b := h1
  have h2 : b < s.length := h2
  have h3 : s[a]? = some 40 := h3
  have e1 : s = s.take b ++ s.drop b := (List.take_append_drop _ _).symm
  have e2 : s.take b = (s.take b).take a ++ (s.take b).drop a := (List.take_append_drop _ _).symm
  have ha : a < (s.take b).length := by rw [List.length_take]; omega
  have e3 : (s.take b).drop a = (40 : UInt8) :: (s.take b).drop (a + 1) := by
    rw [List.drop_eq_getElem_cons ha]
    congr 1
    have h4 : (s.take b)[a]? = some 40 := by rw [List.getElem?_take_of_lt h1]; exact h3
    rw [List.getElem?_eq_getElem ha] at h4
    exact Option.some.inj h4
  have e4 : (s.take b).take a = s.take a := by rw [List.take_take, Nat.min_eq_left (by omega)]
  have e5 : s.drop b = s[b] :: s.drop (b + 1) := List.drop_eq_getElem_cons h2
  have p1 := congrArg pb e1
  have p2 := congrArg pb e2
  have p3 := congrArg pb e3
  have p5 := congrArg pb e5
  rw [pb_app] at p1 p2
  rw [pb_cons, if_pos rfl] at p3
  rw [pb_cons] at p5
  rw [e4] at p2
  omega
mutual
theorem same_twin : ∀ {x y : Syn}, sameB x y = true → Twin Any x y
  | .mk k t n a l, .mk k' t' n' b l', h => by
    rw [sameB_mk] at h
    simp only [Bool.and_eq_true, decide_eq_true_eq, beq_iff_eq] at h
    obtain ⟨⟨⟨rfl, rfl⟩, rfl⟩, h⟩ := h
    exact .mk trivial (same_twinL h)
theorem same_twinL : ∀ {x y : List Syn}, sameL x y = true → TwinL Any x y
  | [], [], _ => .nil
  | x :: l, y :: m, h => by
    rw [sameL_cons, Bool.and_eq_true] at h
    exact .cons (same_twin h.1) (same_twinL h.2)
  | [], y :: m, h => by have := sameL_len h; simp at this
  | x :: l, [], h => by have := sameL_len h; simp at this
end
theorem spared {z : Nat} (hz : 0 < z ∧ z < 4) {t : Syn} {l : List UInt8} (hl : pb l < pb (wrK z t)) {y : Syn} {j : Nat} (h : parseO l (rdK z) = .ok y j) : sameB t y = false := by
  cases hs : sameB t y with
  | false => rfl
  | true =>
    exfalso
    have ht := same_twin hs
    match z, hz with
    | 1, _ => have := spare_c h; have e : wrc t = wrc y := tw_wrc ht; have hl : pb l < pb (wrc t) := hl; rw [e] at hl; omega
    | 2, _ => have := spare_s h; have e : wrs t = wrs y := tw_wrs ht; have hl : pb l < pb (wrs t) := hl; rw [e] at hl; omega
    | 3, _ => have := spare_f h; have e : wrf t = wrf y := tw_wrf ht; have hl : pb l < pb (wrf t) := hl; rw [e] at hl; omega
theorem prK_zero {z : Nat} {t : Syn} {s : List UInt8} (h : prK z t = (s, 0)) : s = wrK z t ∧ ∃ T, scan s = .ok T := by
  unfold prK printO at h
  split at h
  · split at h
    · injection h with h1 h2; cases h2
    · cases hy : parseO (wrK z t) (rdK z) with
      | none => exact absurd hy (parseK_nn z _)
      | err p e =>
        have he := parseK_err hy
        rw [hy] at h
        have : ¬ errO (.err p e : Out Syn) = 0 := by show ¬ e = 0; omega
        rw [if_neg this] at h
        injection h with h1 h2
        exact absurd h2 this
      | ok y j =>
        rw [hy, if_pos (show errO (.ok y j : Out Syn) = 0 from rfl)] at h
        injection h with h1 h2
        refine ⟨h1.symm, ?_⟩
        rw [← h1]
        unfold parseO at hy
        split at hy
        · cases hy
        · rename_i T hT; exact ⟨T, hT⟩
  · injection h with h1 h2; cases h2
end Go.Proofs.YtplbfmcgddnkeaaGreatDoor
end
