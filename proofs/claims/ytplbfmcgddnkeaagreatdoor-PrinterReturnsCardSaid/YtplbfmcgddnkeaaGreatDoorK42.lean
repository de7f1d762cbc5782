/- Joined: Few, LawRet. -/
import Derived.Test.YtplbfmcgddnkeaaGreatDoorK38
import Derived.Test.YtplbfmcgddnkeaaGreatDoorK36
import Derived.Test.YtplbfmcgddnkeaaGreatDoorK37
import Derived.Test.YtplbfmcgddnkeaaGreatDoorK40
set_option linter.unusedVariables false
set_option linter.unusedSimpArgs false
section
set_option maxHeartbeats 4000000
set_option maxRecDepth 100000
namespace Go.Proofs.YtplbfmcgddnkeaaGreatDoor
open Go.RowKit
def tot : Syn → Nat → Nat
  | .mk _ _ _ _ l, L => totL l L 1
where
  totL : List Syn → Nat → Nat → Nat
  | [], _, n => n
  | x :: l, L, n => if n ≤ L then totL l L (n + tot x (L - n)) else n
abbrev totL := tot.totL
theorem tot_mk {k n a : Int} {t : List UInt8} {l : List Syn} {L : Nat} : tot (.mk k t n a l) L = totL l L 1 := by rw [tot]
theorem totL_nil {L n : Nat} : totL [] L n = n := by show tot.totL [] L n = n; simp only [tot.totL]
theorem totL_cons {x : Syn} {l : List Syn} {L n : Nat} : totL (x :: l) L n = if n ≤ L then totL l L (n + tot x (L - n)) else n := by show tot.totL (x :: l) L n = _; simp only [tot.totL]
mutual
theorem tot_le : ∀ (x : Syn) (L : Nat), 1 ≤ tot x L ∧ tot x L ≤ L + 1
  | .mk _ _ _ _ l, L => by rw [tot_mk]; exact totL_le l L 1 (by omega) (by omega)
theorem totL_le : ∀ (l : List Syn) (L n : Nat), 1 ≤ n → n ≤ L + 1 → n ≤ totL l L n ∧ totL l L n ≤ L + 1
  | [], L, n, h, h' => by rw [totL_nil]; omega
  | x :: l, L, n, h, h' => by
    rw [totL_cons]
    split
    · have h1 := tot_le x (L - n)
      have h2 := totL_le l L (n + tot x (L - n)) (by omega) (by omega)
      omega
    · omega
end
def shortB : Syn → Bool
  | .mk _ t _ _ l => decide (t.length ≤ 100) && shortL l
where
  shortL : List Syn → Bool
  | [] => true
  | x :: l => shortB x && shortL l
abbrev shortL := shortB.shortL
theorem shortB_mk {k n a : Int} {t : List UInt8} {l : List Syn} : shortB (.mk k t n a l) = (decide (t.length ≤ 100) && shortL l) := by rw [shortB]
theorem shortL_nil : shortL [] = true := by show shortB.shortL [] = true; simp only [shortB.shortL]
theorem shortL_cons {x : Syn} {l : List Syn} : shortL (x :: l) = (shortB x && shortL l) := by show shortB.shortL (x :: l) = _; simp only [shortB.shortL]
def fewB (t : Syn) : Bool := decide (tot t 200 ≤ 200) && shortB t
def cnt : Syn → Nat
  | .mk _ _ _ _ l => 1 + cntL l
where
  cntL : List Syn → Nat
  | [] => 0
  | x :: l => cnt x + cntL l
abbrev cntL := cnt.cntL
theorem cnt_mk {k n a : Int} {t : List UInt8} {l : List Syn} : cnt (.mk k t n a l) = 1 + cntL l := by rw [cnt]
theorem cntL_nil : cntL [] = 0 := by show cnt.cntL [] = 0; simp only [cnt.cntL]
theorem cntL_cons {x : Syn} {l : List Syn} : cntL (x :: l) = cnt x + cntL l := by show cnt.cntL (x :: l) = _; simp only [cnt.cntL]
theorem cnt_pos (x : Syn) : 1 ≤ cnt x := by rcases x with ⟨a, b, c, d, e⟩; rw [cnt_mk]; omega
theorem cntL_len : ∀ l : List Syn, l.length ≤ cntL l
  | [] => by simp
  | x :: r => by
    have h1 := cntL_len r
    have h2 := cnt_pos x
    rw [cntL_cons, List.length_cons]; omega
theorem cntL_mem : ∀ {l : List Syn} {x : Syn}, x ∈ l → cnt x ≤ cntL l
  | [], x, h => (List.not_mem_nil h).elim
  | y :: r, x, h => by
    rw [cntL_cons]
    rcases List.mem_cons.1 h with rfl | h
    · omega
    · have := cntL_mem h; omega
mutual
theorem tot_cnt : ∀ (x : Syn) (L : Nat), tot x L ≤ L → tot x L = cnt x
  | .mk _ _ _ _ l, L, h => by rw [tot_mk] at h ⊢; rw [cnt_mk]; exact totL_cnt l L 1 (by omega) (by have := (totL_le l L 1 (by omega)); omega) h
theorem totL_cnt : ∀ (l : List Syn) (L n : Nat), 1 ≤ n → n ≤ L + 1 → totL l L n ≤ L → totL l L n = n + cntL l
  | [], L, n, h, h', _ => by rw [totL_nil, cntL_nil]; omega
  | x :: l, L, n, h, h', hl => by
    have h1 := tot_le x (L - n)
    rw [totL_cons] at hl ⊢
    rw [cntL_cons]
    split
    · rename_i hn
      rw [if_pos hn] at hl
      have h2 := totL_le l L (n + tot x (L - n)) (by omega) (by omega)
      have h3 := totL_cnt l L (n + tot x (L - n)) (by omega) (by omega) hl
      have h4 := tot_cnt x (L - n) (by omega)
      omega
    · rename_i hn
      rw [if_neg hn] at hl
      omega
end
mutual
theorem few_mass : ∀ (x : Syn), shortB x = true → mass x ≤ 270 * cnt x
  | .mk _ _ _ _ l, h => by
    rw [shortB_mk, Bool.and_eq_true, decide_eq_true_eq] at h
    have := few_massL l h.2
    rw [mass_mk, cnt_mk]; omega
theorem few_massL : ∀ (l : List Syn), shortL l = true → massL l ≤ 270 * cntL l
  | [], _ => by rw [massL_nil]; omega
  | x :: l, h => by
    rw [shortL_cons, Bool.and_eq_true] at h
    have h1 := few_mass x h.1
    have h2 := few_massL l h.2
    rw [massL_cons, cntL_cons]; omega
end
theorem few_light {t : Syn} (h : fewB t = true) : mass t ≤ 54000 := by
  unfold fewB at h
  rw [Bool.and_eq_true, decide_eq_true_eq] at h
  have h1 := tot_cnt t 200 h.1
  have h2 := few_mass t h.2
  omega
theorem few_mod {t : Syn} (h : fewB t = true) : Mod t := mod_of_mass _ t (Nat.lt_succ_self _) (by have := few_light h; omega)
theorem totL_at {l : List Syn} {L n j : Nat} (h : j < l.length) : totL (l.drop j) L n = if n ≤ L then totL (l.drop (j + 1)) L (n + tot l[j] (L - n)) else n := by
  rw [List.drop_eq_getElem_cons h, totL_cons]
theorem shortL_at {l : List Syn} {j : Nat} (h : j < l.length) : shortL (l.drop j) = (shortB l[j] && shortL (l.drop (j + 1))) := by
  rw [List.drop_eq_getElem_cons h, shortL_cons]
theorem total_any : ∀ (m : Nat) (t : Syn), SizeOf.sizeOf t < m → ∀ (L : Nat), L ≤ 200 → ∀ (q : Option Addr) (d : Nat) (w : World), KidR w t.kids (.slice q t.kids.length d) →
    Calls Tryz.prog 29 #[nodeV t q d, .int .i64 L] w (IPost w (tot t L)) := by
  intro m
  induction m with
  | zero => intro t h; omega
  | succ m ih =>
    intro t hm L hL q d w hks
    obtain ⟨k, tx, n, a, ks⟩ := t
    replace hks : KidR w ks (.slice q ks.length d) := hks
    show Calls Tryz.prog 29 #[(Value.agg #[.int .i64 k, .string ⟨List.toArray tx⟩, .int .i64 n, .int .i64 a, .slice q ks.length d]), .int .i64 L] w _
    obtain ⟨res, hr⟩ : ∃ r, Hid (r = tot (.mk k tx n a ks) L) := ⟨_, Lib.hid rfl⟩
    rw [← hr.out]
    replace hr := Lib.hid (hr.out.trans tot_mk)
    simp only [Syn.mk.sizeOf_spec] at hm
    replace ih := Lib.hid ih
    have hB := boxed_below w k tx n a q ks.length d
    have hC := five (boxed_new w k tx n a q ks.length d)
    have hx1 := hks.low hB
    clear hks
    unfold boxed at hB hC hx1
    go_enter Tryz.func29, Tryz.ntmps29
    go_upto_region 2 with (fail)
    generalize World.alloc w _ = w1 at hB hC hx1 ⊢
    replace hB := Lib.hid hB
    replace hx1 := Lib.hid hx1
    replace hC := Lib.hid (fun W (h : Below w1.heap.size w1 W) => five_low hC h)
    go_wp2_with fail
    go_loopw [5, 6] (fun s5 s6 wr => (∃ j v : Nat, j ≤ ks.length ∧ j < v ∧ v ≤ L + 1 ∧ s5 = .int .i64 v ∧ s6 = .int .i64 j ∧ Hid (totL ks L 1 = totL (ks.drop j) L v)) ∧ Hid (Below w1.heap.size w1 wr)) (fun _ s6 _ => ks.length - (intOf s6).toNat)
    case atStart => exact ⟨⟨0, 1, by omega, by omega, by omega, rfl, rfl, Lib.hid rfl⟩, Lib.hid (Below.refl w1.heap.size w1)⟩
    case round =>
      obtain ⟨⟨j, v, hj, hv1, hv2, rfl, rfl, hsj⟩, hbw⟩ := hrel
      obtain ⟨c0, c1, c2, c3, c4⟩ := hC.out wr hbw.out
      by_cases hlt : j < ks.length
      · have hst := totL_at (L := L) (n := v) hlt
        by_cases hvL : v ≤ L
        · have hvi : (v : Int) ≤ L := by omega
          have hji : (j : Int) < ks.length := by omega
          rw [if_pos hvL] at hst
          obtain ⟨g, o, u, c, rfl, hu, hku⟩ := (hx1.out.low hbw.out).get j hlt
          have hsz := List.sizeOf_lt_of_mem (List.getElem_mem hlt)
          have hcall := ih.out ks[j] (by omega) (L - v) (by omega) u c wr hku
          have hle := tot_le ks[j] (L - v)
          replace hsj := Lib.hid (hsj.out.trans hst)
          clear hst hsz hku
          generalize ks[j] = x at hcall hu hsj hle
          obtain ⟨u0, u1, u2, u3, u4⟩ := hu
          generalize tot x (L - v) = tx1 at hcall hsj hle
          rw [show (((L - v : Nat) : Int)) = (L : Int) - v by omega] at hcall
          replace hcall := Lib.hid hcall
          go_wp2_with (first | (go_at_call 29; (with_reducible refine (hcall.out).mono ?_); rintro e w3 ⟨rfl, b3⟩; replace b3 := Lib.hid b3))
          go_roundw
          case rel => exact ⟨⟨j + 1, v + tx1, by omega, by omega, by omega, by go_num, by go_num, hsj⟩, Lib.hid (hbw.out.trans (b3.out.mono hbw.out.size))⟩
          case measure => simp [intOf]; omega
        · have hvi : ¬ (v : Int) ≤ L := by omega
          have hji : (j : Int) < ks.length := by omega
          rw [if_neg hvL] at hst
          go_wp2_with fail
          refine bodyPost_ret (v := .int .i64 v) (by simp [results, Tryz.results29, go_sem]) rfl ⟨?_, hB.out.trans (hbw.out.mono hB.out.size)⟩
          rw [hr.out, hsj.out, hst]
      · have hji : ¬ (j : Int) < ks.length := by omega
        go_wp2_with fail
        refine bodyPost_ret (v := .int .i64 v) (by simp [results, Tryz.results29, go_sem]) rfl ⟨?_, hB.out.trans (hbw.out.mono hB.out.size)⟩
        rw [hr.out, hsj.out, List.drop_eq_nil_of_le (by omega), totL_nil]
theorem short_any : ∀ (m : Nat) (t : Syn), SizeOf.sizeOf t < m → cnt t ≤ 200 → ∀ (q : Option Addr) (d : Nat) (w : World), KidR w t.kids (.slice q t.kids.length d) →
    Calls Tryz.prog 30 #[nodeV t q d] w (VPost w (shortB t)) := by
  intro m
  induction m with
  | zero => intro t h; omega
  | succ m ih =>
    intro t hm hcn q d w hks
    obtain ⟨k, tx, n, a, ks⟩ := t
    replace hks : KidR w ks (.slice q ks.length d) := hks
    show Calls Tryz.prog 30 #[(Value.agg #[.int .i64 k, .string ⟨List.toArray tx⟩, .int .i64 n, .int .i64 a, .slice q ks.length d])] w _
    obtain ⟨res, hr⟩ : ∃ r, Hid (r = shortB (.mk k tx n a ks)) := ⟨_, Lib.hid rfl⟩
    rw [← hr.out]
    replace hr := Lib.hid (hr.out.trans shortB_mk)
    rw [cnt_mk] at hcn
    have hcl := cntL_len ks
    have hcm : ∀ j (hj : j < ks.length), cnt ks[j] ≤ 200 := fun j hj => by have := cntL_mem (List.getElem_mem hj); omega
    simp only [Syn.mk.sizeOf_spec] at hm
    replace ih := Lib.hid ih
    replace hcm := Lib.hid hcm
    have hB := boxed_below w k tx n a q ks.length d
    have hC := five (boxed_new w k tx n a q ks.length d)
    have hx1 := hks.low hB
    clear hks
    unfold boxed at hB hC hx1
    go_enter Tryz.func30, Tryz.ntmps30
    go_upto_region 1 with (fail)
    generalize World.alloc w _ = w1 at hB hC hx1 ⊢
    replace hB := Lib.hid hB
    replace hx1 := Lib.hid hx1
    replace hC := Lib.hid (fun W (h : Below w1.heap.size w1 W) => five_low hC h)
    obtain ⟨c0, c1, c2, c3, c4⟩ := hC.out w1 (Below.refl _ _)
    by_cases h1 : tx.length ≤ 100
    case neg =>
      have hi : (100 : Int) < tx.length := by omega
      replace hr := Lib.hid (hr.out.trans (show _ = false by rw [decide_eq_false h1]; rfl))
      go_wp2_with fail
      all_goals
        go_ret
        exact ⟨ret_b hr.out.symm, hB.out⟩
    have hi : ¬ (100 : Int) < tx.length := by omega
    replace hr := Lib.hid (hr.out.trans (show _ = shortL ks by rw [decide_eq_true h1]; rfl))
    go_upto_region 3 with (fail)
    clear c0 c1 c2 c3 c4
    go_wp2_with fail
    go_loopw [3] (fun s6 wr => (∃ j : Nat, j ≤ ks.length ∧ s6 = .int .i64 j ∧ Hid (shortL ks = shortL (ks.drop j))) ∧ Hid (Below w1.heap.size w1 wr)) (fun s6 _ => ks.length - (intOf s6).toNat)
    case atStart => exact ⟨⟨0, by omega, rfl, Lib.hid rfl⟩, Lib.hid (Below.refl w1.heap.size w1)⟩
    case round =>
      obtain ⟨⟨j, hj, rfl, hsj⟩, hbw⟩ := hrel
      obtain ⟨c0, c1, c2, c3, c4⟩ := hC.out wr hbw.out
      by_cases hlt : j < ks.length
      · have hst := shortL_at hlt
        have hji : (j : Int) < ks.length := by omega
        obtain ⟨g, o, u, c, rfl, hu, hku⟩ := (hx1.out.low hbw.out).get j hlt
        have hsz := List.sizeOf_lt_of_mem (List.getElem_mem hlt)
        have hcall := ih.out ks[j] (by omega) (hcm.out j hlt) u c wr hku
        replace hsj := Lib.hid (hsj.out.trans hst)
        clear hst hsz hku
        generalize ks[j] = x at hcall hu hsj
        obtain ⟨u0, u1, u2, u3, u4⟩ := hu
        replace hcall := Lib.hid hcall
        cases hsb : shortB x with
        | false =>
          rw [hsb] at hcall
          have hr2 := Lib.hid (hr.out.trans (hsj.out.trans (show _ = false by rw [hsb]; first | done | rfl)))
          replace hsb := Lib.hid hsb
          go_wp2_with (first | (go_at_call 30; (with_reducible refine (hcall.out).mono ?_); rintro e w3 ⟨rfl, b3⟩; replace b3 := Lib.hid b3))
          refine bodyPost_ret (v := .bool false) (by simp [results, Tryz.results30, go_sem]) rfl ⟨ret_b hr2.out.symm, hB.out.trans ((hbw.out.trans (b3.out.mono hbw.out.size)).mono hB.out.size)⟩
        | true =>
          rw [hsb] at hcall
          have hsj' := Lib.hid (hsj.out.trans (by rw [hsb]; first | done | exact Bool.true_and _))
          replace hsb := Lib.hid hsb
          go_wp2_with (first | (go_at_call 30; (with_reducible refine (hcall.out).mono ?_); rintro e w3 ⟨rfl, b3⟩; replace b3 := Lib.hid b3))
          go_roundw
          case rel => exact ⟨⟨j + 1, by omega, by go_num, hsj'⟩, Lib.hid (hbw.out.trans (b3.out.mono hbw.out.size))⟩
          case measure => simp [intOf]; omega
      · have hji : ¬ (j : Int) < ks.length := by omega
        go_wp2_with fail
        refine bodyPost_ret (v := .bool true) (by simp [results, Tryz.results30, go_sem]) rfl ⟨?_, hB.out.trans (hbw.out.mono hB.out.size)⟩
        refine ret_b ?_
        rw [hr.out, hsj.out, List.drop_eq_nil_of_le (by omega), shortL_nil]
theorem few_any (t : Syn) (p : Option Addr) (c : Nat) (w : World) (hks : KidR w t.kids (.slice p t.kids.length c)) : Calls Tryz.prog 9 #[nodeV t p c] w (VPost w (fewB t)) := by
  have hT := fun W (hb : Below w.heap.size w W) => total_any _ t (Nat.lt_succ_self _) 200 (by omega) p c W (hks.low hb)
  have hS := fun (hc : cnt t ≤ 200) W (hb : Below w.heap.size w W) => short_any _ t (Nat.lt_succ_self _) hc p c W (hks.low hb)
  have hc2 : tot t 200 ≤ 200 → cnt t ≤ 200 := fun h => by rw [← tot_cnt t 200 h]; exact h
  obtain ⟨res, hr⟩ : ∃ r, Hid (r = fewB t) := ⟨_, Lib.hid rfl⟩
  rw [← hr.out]
  replace hr := Lib.hid (hr.out.trans (show _ = (decide (tot t 200 ≤ 200) && shortB t) from rfl))
  generalize tot t 200 = tt at *
  generalize shortB t = sb at *
  generalize cnt t = cc at *
  obtain ⟨k, tx, n, a, ks⟩ := t
  replace hT : ∀ W, Below w.heap.size w W → Calls Tryz.prog 29 #[(Value.agg #[.int .i64 k, .string ⟨List.toArray tx⟩, .int .i64 n, .int .i64 a, .slice p ks.length c]), .int .i64 200] W (IPost W tt) := hT
  replace hS : cc ≤ 200 → ∀ W, Below w.heap.size w W → Calls Tryz.prog 30 #[(Value.agg #[.int .i64 k, .string ⟨List.toArray tx⟩, .int .i64 n, .int .i64 a, .slice p ks.length c])] W (VPost W sb) := hS
  show Calls Tryz.prog 9 #[(Value.agg #[.int .i64 k, .string ⟨List.toArray tx⟩, .int .i64 n, .int .i64 a, .slice p ks.length c])] w _
  clear hks
  generalize ks.length = m at *
  replace hT := Lib.hid hT
  have hB := boxed_below w k tx n a p m c
  have hC := boxed_new w k tx n a p m c
  unfold boxed at hB hC
  go_enter Tryz.func9, Tryz.ntmps9
  go_upto_region 1 with (fail)
  generalize World.alloc w _ = w1 at hB hC ⊢
  obtain ⟨c0, c1, c2, c3, c4⟩ := five hC
  replace hB := Lib.hid hB
  replace hC := Lib.hid hC
  by_cases h2 : tt ≤ 200
  · have hi : (tt : Int) ≤ 200 := by omega
    replace hS := Lib.hid (hS (hc2 h2))
    replace hr := Lib.hid (hr.out.trans (show _ = sb by rw [decide_eq_true h2]; rfl))
    replace h2 := Lib.hid h2
    have hF := Lib.hid (fun W (h : Below w1.heap.size w1 W) => five_low ⟨c0, c1, c2, c3, c4⟩ h)
    go_wp2_with (first | (go_at_call 29; (with_reducible refine (hT.out _ hB.out).mono ?_); rintro e x2 ⟨rfl, b2⟩; have hB2 := Lib.hid (hB.out.trans (b2.mono hB.out.size)); obtain ⟨d0, d1, d2, d3, d4⟩ := hF.out x2 b2) | (go_at_call 30; (with_reducible refine (hS.out _ hB2.out).mono ?_); rintro e x3 ⟨rfl, b3⟩))
    all_goals
      go_ret
      exact ⟨ret_b hr.out.symm, hB2.out.trans (b3.mono hB2.out.size)⟩
  · have hi : ¬ (tt : Int) ≤ 200 := by omega
    replace hr := Lib.hid (hr.out.trans (show _ = false by rw [decide_eq_false h2]; rfl))
    replace h2 := Lib.hid h2
    go_wp2_with (first | (go_at_call 29; (with_reducible refine (hT.out _ hB.out).mono ?_); rintro e x2 ⟨rfl, b2⟩; have hB2 := Lib.hid (hB.out.trans (b2.mono hB.out.size))))
    all_goals
      go_ret
      exact ⟨ret_b hr.out.symm, hB2.out⟩
end Go.Proofs.YtplbfmcgddnkeaaGreatDoor
end
section
set_option maxHeartbeats 4000000
set_option maxRecDepth 100000
namespace Go.Proofs.YtplbfmcgddnkeaaGreatDoor
open Go.RowKit
theorem few_written {z : Nat} {t : Syn} (hz : z < 4) (hf : fewB t = true) : (∃ er, prK z t = ([], er) ∧ (er = 3 ∨ er = 12 ∨ er = 13)) ∨ (okK z t = true ∧ prK z t = (wrK z t, 0) ∧ ∃ y j, parseO (wrK z t) (rdK z) = .ok y j ∧ Twin Any t y) := by
  cases ho : okK z t with
  | false => exact Or.inl ⟨3, by unfold prK printO; rw [ho]; rfl, Or.inl rfl⟩
  | true =>
    rcases settle hz ho with ⟨er, h1, h2⟩ | ⟨h1, h2⟩
    · exact Or.inl ⟨er, h1, Or.inr h2⟩
    · exact Or.inr ⟨rfl, h1, h2⟩
theorem walkReturns9 (t : Syn) (p : Option Addr) (c : Nat) (kd : Int) (w : World) (hks : KidR w t.kids (.slice p t.kids.length c)) (ha : (Lit.int .u8 kd).wf = true) (he : PEnv w) (ht : TabW w) :
    Calls Tryz.prog 5 #[nodeV t p c, .int .u8 kd] w (VPost w true) := by
  have hAw := Lib.hid (fun W (hb : Below w.heap.size w W) => awake09_any W (he.below hb) (tab_low ht hb))
  have hFw := fun W (hb : Below w.heap.size w W) => few_any t p c W (hks.low hb)
  obtain ⟨z, hz4, hka⟩ : ∃ k : Nat, k < 4 ∧ kd % 4 = k := ⟨(kd % 4).toNat, by omega, by omega⟩
  have hkt : kd.tmod 4 = z := by rw [Int.tmod_eq_emod_of_nonneg (u8_bounds ha).1, hka]
  have hE := Lib.hid he
  have hT := Lib.hid ht
  clear ha hka he ht
  cases hf : fewB t with
  | false =>
    rw [hf] at hFw
    obtain ⟨k, tx, n, a, ks⟩ := t
    replace hFw : ∀ W, Below w.heap.size w W → Calls Tryz.prog 9 #[(Value.agg #[.int .i64 k, .string ⟨List.toArray tx⟩, .int .i64 n, .int .i64 a, .slice p ks.length c])] W (VPost W false) := hFw
    show Calls Tryz.prog 5 #[(Value.agg #[.int .i64 k, .string ⟨List.toArray tx⟩, .int .i64 n, .int .i64 a, .slice p ks.length c]), .int .u8 kd] w _
    replace hFw := Lib.hid hFw
    clear hks hf hz4 hkt
    generalize ks.length = m at *
    have hB := boxed_below w k tx n a p m c
    have hC := boxed_new w k tx n a p m c
    unfold boxed at hB hC
    go_enter Tryz.func5, Tryz.ntmps5
    go_upto_region 1 with (fail)
    generalize World.alloc w _ = w1 at hB hC ⊢
    obtain ⟨c0, c1, c2, c3, c4⟩ := five hC
    replace hB := Lib.hid hB
    replace hC := Lib.hid hC
    go_wp2_with (first | (go_at_call 9; (with_reducible refine (hFw.out _ hB.out).mono ?_); rintro e x1 ⟨rfl, b1⟩; have hB1 := Lib.hid (hB.out.trans (b1.mono hB.out.size))) | (go_at_call 10; (with_reducible refine (hAw.out _ hB1.out).mono ?_); rintro e x2 ⟨rfl, b2⟩))
    all_goals
      go_ret
      exact ⟨rfl, hB1.out.trans (b2.mono hB1.out.size)⟩
  | true =>
    have hM := few_mod hf
    have hlen : okK z t = true → (wrK z t).length ≤ 140737488355328 := fun h => by have := few_light hf; have := wrK_len h; omega
    have hRd := fun W (hb : Below w.heap.size w W) (hk : KidR W t.kids (.slice p t.kids.length c)) => read_any t hM p c kd z hz4 hkt W (hE.out.below hb) (tab_low hT.out hb) hk hlen
    have hW := few_written hz4 hf
    rw [hf] at hFw
    rcases hW with ⟨er, hp, her⟩ | ⟨hok, hp, y, j', hy, htw⟩
    · rw [hp] at hRd
      have hei : ¬ (er : Int) = 0 := by omega
      have hej : ((er : Int) == 0) = false := by rw [beq_eq_false_iff_ne]; omega
      have hRd2 : ∀ W, Below w.heap.size w W → Calls Tryz.prog 17 #[nodeV t p c, .int .u8 kd] W fun e w' => Below W.heap.size W w' ∧ ∃ (y : Syn) (q : Option Addr) (d g : Nat), e = .returned (.tuple #[nodeV y q d, .string ⟨#[]⟩, .int .i64 er, .int .i64 g]) := fun W hb => (hRd W hb (hks.low hb)).mono fun e w' h => by
        obtain ⟨h1, y, q, d, h2, -⟩ := h
        exact ⟨h1, y, q, d, _, h2⟩
      clear hRd hp hlen her hkt hks hz4 hf hM
      obtain ⟨k, tx, n, a, ks⟩ := t
      replace hFw : ∀ W, Below w.heap.size w W → Calls Tryz.prog 9 #[(Value.agg #[.int .i64 k, .string ⟨List.toArray tx⟩, .int .i64 n, .int .i64 a, .slice p ks.length c])] W (VPost W true) := hFw
      replace hRd2 : ∀ W, Below w.heap.size w W → Calls Tryz.prog 17 #[(Value.agg #[.int .i64 k, .string ⟨List.toArray tx⟩, .int .i64 n, .int .i64 a, .slice p ks.length c]), .int .u8 kd] W fun e w' => Below W.heap.size W w' ∧ ∃ (y : Syn) (q : Option Addr) (d g : Nat), e = .returned (.tuple #[nodeV y q d, .string ⟨#[]⟩, .int .i64 er, .int .i64 g]) := hRd2
      show Calls Tryz.prog 5 #[(Value.agg #[.int .i64 k, .string ⟨List.toArray tx⟩, .int .i64 n, .int .i64 a, .slice p ks.length c]), .int .u8 kd] w _
      replace hFw := Lib.hid hFw
      replace hRd2 := Lib.hid hRd2
      generalize ks.length = m at *
      have hB := boxed_below w k tx n a p m c
      have hC := boxed_new w k tx n a p m c
      unfold boxed at hB hC
      go_enter Tryz.func5, Tryz.ntmps5
      go_upto_region 1 with (fail)
      generalize World.alloc w _ = w1 at hB hC ⊢
      obtain ⟨c0, c1, c2, c3, c4⟩ := five hC
      replace hB := Lib.hid hB
      replace hC := Lib.hid hC
      have hF := Lib.hid (fun W (h : Below w1.heap.size w1 W) => five_low ⟨c0, c1, c2, c3, c4⟩ h)
      clear c0 c1 c2 c3 c4
      have c0 := (hF.out w1 (Below.refl _ _)).1
      have c1 := (hF.out w1 (Below.refl _ _)).2.1
      have c2 := (hF.out w1 (Below.refl _ _)).2.2.1
      have c3 := (hF.out w1 (Below.refl _ _)).2.2.2.1
      have c4 := (hF.out w1 (Below.refl _ _)).2.2.2.2
      go_wp2_with (first | (go_at_call 9; (with_reducible refine (hFw.out _ hB.out).mono ?_); rintro e x1 ⟨rfl, b1⟩; have hB1 := Lib.hid (hB.out.trans (b1.mono hB.out.size)); obtain ⟨d0, d1, d2, d3, d4⟩ := hF.out _ b1) | (go_at_call 17; (with_reducible refine (hRd2.out _ hB1.out).mono ?_); rintro e x2 ⟨b2, y, q, d, g, rfl⟩; have hB2 := Lib.hid (hB1.out.trans (b2.mono hB1.out.size))) | (go_at_call 10; (with_reducible refine (hAw.out _ (hB2.out.alloc hB2.out.size _)).mono ?_); rintro e x3 ⟨rfl, b3⟩))
      all_goals
        go_ret
        exact ⟨rfl, (hB2.out.alloc hB2.out.size _).trans (b3.mono (hB2.out.alloc hB2.out.size _).size)⟩
    · have hMy : Mod y := Mod.twin _ t y (Nat.lt_succ_self _) htw hM
      have hly : (wrK z y).length ≤ 140737488355328 := by rw [← (twinK hz4 htw).2]; exact hlen hok
      have hRy := fun q d W (hb : Below w.heap.size w W) (hk : KidR W y.kids (.slice q y.kids.length d)) => read_any y hMy q d kd z hz4 hkt W (hE.out.below hb) (tab_low hT.out hb) hk (fun _ => hly)
      rw [prK_twin hz4 htw, hp] at hRy
      rw [hp] at hRd
      simp only [hy] at hRd hRy
      have hRd2 : ∀ W, Below w.heap.size w W → Calls Tryz.prog 17 #[nodeV t p c, .int .u8 kd] W fun e w' => Below W.heap.size W w' ∧ ∃ (q : Option Addr) (d : Nat), e = .returned (.tuple #[nodeV y q d, .string ⟨(wrK z t).toArray⟩, .int .i64 0, .int .i64 0]) ∧ KidR w' y.kids (.slice q y.kids.length d) := fun W hb => (hRd W hb (hks.low hb)).mono fun e w' h => by
        obtain ⟨h1, z, q, d, h2, h3, h4⟩ := h
        obtain rfl := h4 y j' rfl
        exact ⟨h1, q, d, h2, h3⟩
      have hRy2 : ∀ q d W, Below w.heap.size w W → KidR W y.kids (.slice q y.kids.length d) → Calls Tryz.prog 17 #[nodeV y q d, .int .u8 kd] W fun e w' => Below W.heap.size W w' ∧ ∃ (x : Syn) (q : Option Addr) (d : Nat), e = .returned (.tuple #[nodeV x q d, .string ⟨(wrK z t).toArray⟩, .int .i64 0, .int .i64 0]) := fun q d W hb hk => (hRy q d W hb hk).mono fun e w' h => by
        obtain ⟨h1, z, q, d, h2, -⟩ := h
        exact ⟨h1, z, q, d, h2⟩
      have hSm := fun q' d' W (hb : Below w.heap.size w W) (hy : KidR W y.kids (.slice q' y.kids.length d')) => same_any _ t y (Nat.lt_succ_self _) hM p q' c d' W (hks.low hb) hy
      rw [twin_same htw] at hSm
      clear hRd hRy hp hok hlen hly hy htw hM hMy hkt hks hf
      generalize wrK z t = txt at *
      clear hz4
      obtain ⟨k, tx, n, a, ks⟩ := t
      replace hFw : ∀ W, Below w.heap.size w W → Calls Tryz.prog 9 #[(Value.agg #[.int .i64 k, .string ⟨List.toArray tx⟩, .int .i64 n, .int .i64 a, .slice p ks.length c])] W (VPost W true) := hFw
      replace hRd2 : ∀ W, Below w.heap.size w W → Calls Tryz.prog 17 #[(Value.agg #[.int .i64 k, .string ⟨List.toArray tx⟩, .int .i64 n, .int .i64 a, .slice p ks.length c]), .int .u8 kd] W fun e w' => Below W.heap.size W w' ∧ ∃ (q : Option Addr) (d : Nat), e = .returned (.tuple #[nodeV y q d, .string ⟨txt.toArray⟩, .int .i64 0, .int .i64 0]) ∧ KidR w' y.kids (.slice q y.kids.length d) := hRd2
      replace hSm : ∀ q' d' W, Below w.heap.size w W → KidR W y.kids (.slice q' y.kids.length d') → Calls Tryz.prog 18 #[(Value.agg #[.int .i64 k, .string ⟨List.toArray tx⟩, .int .i64 n, .int .i64 a, .slice p ks.length c]), nodeV y q' d'] W (VPost W true) := hSm
      show Calls Tryz.prog 5 #[(Value.agg #[.int .i64 k, .string ⟨List.toArray tx⟩, .int .i64 n, .int .i64 a, .slice p ks.length c]), .int .u8 kd] w _
      replace hFw := Lib.hid hFw
      replace hRd2 := Lib.hid hRd2
      replace hRy2 := Lib.hid hRy2
      replace hSm := Lib.hid hSm
      generalize ks.length = m at *
      have hB := boxed_below w k tx n a p m c
      have hC := boxed_new w k tx n a p m c
      unfold boxed at hB hC
      go_enter Tryz.func5, Tryz.ntmps5
      go_upto_region 1 with (fail)
      generalize World.alloc w _ = w1 at hB hC ⊢
      obtain ⟨c0, c1, c2, c3, c4⟩ := five hC
      replace hB := Lib.hid hB
      replace hC := Lib.hid hC
      have hF := Lib.hid (fun W (h : Below w1.heap.size w1 W) => five_low ⟨c0, c1, c2, c3, c4⟩ h)
      clear c0 c1 c2 c3 c4
      have c0 := (hF.out w1 (Below.refl _ _)).1
      have c1 := (hF.out w1 (Below.refl _ _)).2.1
      have c2 := (hF.out w1 (Below.refl _ _)).2.2.1
      have c3 := (hF.out w1 (Below.refl _ _)).2.2.2.1
      have c4 := (hF.out w1 (Below.refl _ _)).2.2.2.2
      go_upto_region 4 with (first | (go_at_call 9; (with_reducible refine (hFw.out _ hB.out).mono ?_); rintro e x1 ⟨rfl, b1⟩; have hB1 := Lib.hid (hB.out.trans (b1.mono hB.out.size)); obtain ⟨d0, d1, d2, d3, d4⟩ := hF.out _ b1; clear c0 c1 c2 c3 c4) | (go_at_call 17; (with_reducible refine (hRd2.out _ hB1.out).mono ?_); rintro e w4 ⟨b4, q4, e4, rfl, hk4⟩))
      have bA := b4.alloc b4.size (.cells (five5 y q4 e4) 24)
      have hB4 := Lib.hid (hB1.out.trans (bA.mono hB1.out.size))
      have hF4 := Lib.hid (five_low ⟨d0, d1, d2, d3, d4⟩ bA)
      have hG4 := five (heap_alloc_new w4 (.cells (five5 y q4 e4) 24))
      have hY4 := Lib.hid (hk4.low ((Below.refl _ _).alloc (Nat.le_refl _) (.cells (five5 y q4 e4) 24)))
      unfold five5 at bA hB4 hF4 hG4 hY4
      clear d0 d1 d2 d3 d4 hk4 b4 bA
      generalize World.alloc w4 _ = w5 at hB4 hF4 hG4 hY4 ⊢
      generalize w4.heap.size = M at hG4 ⊢
      obtain ⟨c0, c1, c2, c3, c4⟩ := hG4
      go_upto_region 7 with (first | (go_at_call 17; (with_reducible refine (hRy2.out _ _ _ hB4.out hY4.out).mono ?_); rintro e w6 ⟨b6, z6, q6, d6, rfl⟩))
      have bA := b6.alloc b6.size (.cells (five5 z6 q6 d6) 24)
      have hB6 := Lib.hid (hB4.out.trans (bA.mono hB4.out.size))
      have hY6 := hY4.out.low bA
      have hF6 := five_low hF4.out bA
      have hG6 := five_low ⟨c0, c1, c2, c3, c4⟩ bA
      unfold five5 at bA hB6 hY6 hF6 hG6
      clear c0 c1 c2 c3 c4 b6 bA
      generalize World.alloc w6 _ = w7 at hB6 hY6 hF6 hG6 ⊢
      obtain ⟨c0, c1, c2, c3, c4⟩ := hF6
      obtain ⟨d0, d1, d2', d3, d4'⟩ := hG6
      have hSm2 := Lib.hid (hSm.out _ _ w7 hB6.out hY6)
      clear hY6
      go_wp2_with (first | (go_at_call 18; (with_reducible refine (hSm2.out).mono ?_); rintro e w8 ⟨rfl, b8⟩; have hB8 := Lib.hid (hB6.out.trans (b8.mono hB6.out.size))) | (go_at_call 10; (with_reducible refine (hAw.out _ hB8.out).mono ?_); rintro e w9 ⟨rfl, b9⟩))
      all_goals
        go_ret
        exact ⟨rfl, hB8.out.trans (b9.mono hB8.out.size)⟩
end Go.Proofs.YtplbfmcgddnkeaaGreatDoor
end
