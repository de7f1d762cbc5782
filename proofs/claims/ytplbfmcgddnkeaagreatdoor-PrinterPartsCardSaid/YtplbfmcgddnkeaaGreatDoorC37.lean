/- Walks of functions, and plain facts. -/
import Derived.Test.YtplbfmcgddnkeaaGreatDoorRows
import Derived.ProofKit
import Derived.LaidMore
import Derived.LaidSub
import Derived.OpenShut
import Derived.Test.YtplbfmcgddnkeaaGreatDoorC36
import Derived.Test.YtplbfmcgddnkeaaGreatDoorC30
import Derived.Test.YtplbfmcgddnkeaaGreatDoorC29
import Derived.Test.YtplbfmcgddnkeaaGreatDoorC07
set_option linter.unusedVariables false
set_option linter.unusedSimpArgs false
set_option maxHeartbeats 20000000
set_option maxRecDepth 100000
namespace Go.Proofs.YtplbfmcgddnkeaaGreatDoor
open Go.RowKit
def tot : Syn → Nat → Nat
 | .mk _ _ _ _ l, L => totL l L 1
where
 totL : List Syn → Nat → Nat → Nat
 | [], _, n => n
 | x :: l, L, n => if n ≤ L then totL l L (n + tot x (L - n)) else n
abbrev totL := tot.totL
theorem Qai {k n a : Int} {t : List UInt8} {l : List Syn} {L : Nat} : tot (.mk k t n a l) L = totL l L 1 := by rw [tot]
theorem Qbo {L n : Nat} : totL [] L n = n := by show tot.totL [] L n = n; simp only [tot.totL]
theorem Qcj {x : Syn} {l : List Syn} {L n : Nat} : totL (x :: l) L n = if n ≤ L then totL l L (n + tot x (L - n)) else n := by show tot.totL (x :: l) L n = _; simp only [tot.totL]
mutual
theorem Qbz : ∀ (x : Syn) (L : Nat), 1 ≤ tot x L ∧ tot x L ≤ L + 1
 | .mk _ _ _ _ l, L => by rw [Qai]; exact Q97 l L 1 (by omega) (by omega)
theorem Q97 : ∀ (l : List Syn) (L n : Nat), 1 ≤ n → n ≤ L + 1 → n ≤ totL l L n ∧ totL l L n ≤ L + 1
 | [], L, n, h, h' => by rw [Qbo]; omega
 | x :: l, L, n, h, h' => by
  rw [Qcj]
  split
  ·have h1 := Qbz x (L - n)
   have h2 := Q97 l L (n + tot x (L - n)) (by omega) (by omega)
   omega
  ·omega
end
def Q1z : Syn → Bool
 | .mk _ t _ _ l => decide (t.length ≤ 100) && shortL l
where
 shortL : List Syn → Bool
 | [] => true
 | x :: l => Q1z x && shortL l
abbrev shortL := Q1z.shortL
theorem Qey {k n a : Int} {t : List UInt8} {l : List Syn} : Q1z (.mk k t n a l) = (decide (t.length ≤ 100) && shortL l) := by rw [Q1z]
theorem Qj5 : shortL [] = true := by show Q1z.shortL [] = true; simp only [Q1z.shortL]
theorem Qg9 {x : Syn} {l : List Syn} : shortL (x :: l) = (Q1z x && shortL l) := by show Q1z.shortL (x :: l) = _; simp only [Q1z.shortL]
def fewB (t : Syn) : Bool := decide (tot t 200 ≤ 200) && Q1z t
def cnt : Syn → Nat
 | .mk _ _ _ _ l => 1 + cntL l
where
 cntL : List Syn → Nat
 | [] => 0
 | x :: l => cnt x + cntL l
abbrev cntL := cnt.cntL
theorem Q8u {k n a : Int} {t : List UInt8} {l : List Syn} : cnt (.mk k t n a l) = 1 + cntL l := by rw [cnt]
theorem Qo5 : cntL [] = 0 := by show cnt.cntL [] = 0; simp only [cnt.cntL]
theorem Q8w {x : Syn} {l : List Syn} : cntL (x :: l) = cnt x + cntL l := by show cnt.cntL (x :: l) = _; simp only [cnt.cntL]
theorem Qns (x : Syn) : 1 ≤ cnt x := by rcases x with ⟨a, b, c, d, e⟩; rw [Q8u]; omega
theorem Qhu : ∀ l : List Syn, l.length ≤ cntL l
 | [] => by simp
 | x :: r => by
  have h1 := Qhu r
  have h2 := Qns x
  rw [Q8w, List.length_cons]; omega
theorem Qh3 : ∀ {l : List Syn} {x : Syn}, x ∈ l → cnt x ≤ cntL l
 | [], x, h => (List.not_mem_nil h).elim
 | y :: r, x, h => by
  rw [Q8w]
  rcases List.mem_cons.1 h with rfl | h
  ·omega
  ·have := Qh3 h; omega
mutual
theorem Qcs : ∀ (x : Syn) (L : Nat), tot x L ≤ L → tot x L = cnt x
 | .mk _ _ _ _ l, L, h => by rw [Qai] at h ⊢; rw [Q8u]; exact Qfs l L 1 (by omega) (by have := (Q97 l L 1 (by omega)); omega) h
theorem Qfs : ∀ (l : List Syn) (L n : Nat), 1 ≤ n → n ≤ L + 1 → totL l L n ≤ L → totL l L n = n + cntL l
 | [], L, n, h, h', _ => by rw [Qbo, Qo5]; omega
 | x :: l, L, n, h, h', hl => by
  have h1 := Qbz x (L - n)
  rw [Qcj] at hl ⊢
  rw [Q8w]
  split
  ·rename_i hn
   rw [if_pos hn] at hl
   have h2 := Q97 l L (n + tot x (L - n)) (by omega) (by omega)
   have h3 := Qfs l L (n + tot x (L - n)) (by omega) (by omega) hl
   have h4 := Qcs x (L - n) (by omega)
   omega
  ·rename_i hn
   rw [if_neg hn] at hl
   omega
end
mutual
theorem Qhx : ∀ (x : Syn), Q1z x = true → mass x ≤ 270 * cnt x
 | .mk _ _ _ _ l, h => by
  rw [Qey, Bool.and_eq_true, decide_eq_true_eq] at h
  have := Qfq l h.2
  rw [Qr, Q8u]; omega
theorem Qfq : ∀ (l : List Syn), shortL l = true → massL l ≤ 270 * cntL l
 | [], _ => by rw [Qw]; omega
 | x :: l, h => by
  rw [Qg9, Bool.and_eq_true] at h
  have h1 := Qhx x h.1
  have h2 := Qfq l h.2
  rw [Qm, Q8w]; omega
end
theorem Q6i {t : Syn} (h : fewB t = true) : mass t ≤ 54000 := by
 unfold fewB at h
 rw [Bool.and_eq_true, decide_eq_true_eq] at h
 have h1 := Qcs t 200 h.1
 have h2 := Qhx t h.2
 omega
theorem Q81 {t : Syn} (h : fewB t = true) : Mod t := Qfp _ t (Nat.lt_succ_self _) (by have := Q6i h; omega)
theorem Qru {l : List Syn} {L n j : Nat} (h : j < l.length) : totL (l.drop j) L n = if n ≤ L then totL (l.drop (j + 1)) L (n + tot l[j] (L - n)) else n := by
 rw [List.drop_eq_getElem_cons h, Qcj]
theorem Qkl {l : List Syn} {j : Nat} (h : j < l.length) : shortL (l.drop j) = (Q1z l[j] && shortL (l.drop (j + 1))) := by
 rw [List.drop_eq_getElem_cons h, Qg9]
theorem Qnb : ∀ (m : Nat) (t : Syn), SizeOf.sizeOf t < m → ∀ (L : Nat), L ≤ 200 → ∀ (q : Option Addr) (d : Nat) (w : World), KidR w t.kids (.slice q t.kids.length d) →
  Calls Tryz.prog 29 #[Q3 t q d, .int .i64 L] w (Q30 w (tot t L)) := by
 intro m
 induction m with
 | zero => intro t h; omega
 | succ m ih =>
  intro t hm L hL q d w hks
  obtain ⟨k, tx, n, a, ks⟩ := t
  replace hks : KidR w ks (.slice q ks.length d) := hks
  show Calls Tryz.prog 29 #[(Value.agg #[.int .i64 k, .string ⟨List.toArray tx⟩, .int .i64 n, .int .i64 a, .slice q ks.length d]), .int .i64 L] w _
  obtain ⟨res, hr⟩ : ∃ r, Hid (r = tot (.mk k tx n a ks) L) := ⟨_, qh rfl⟩
  rw [← hr.out]
  replace hr := qh (hr.out.trans Qai)
  simp only [Syn.mk.sizeOf_spec] at hm
  replace ih := qh ih
  have hB := Qf w k tx n a q ks.length d
  have hC := five (Qg w k tx n a q ks.length d)
  have hx1 := hks.low hB
  clear hks
  unfold boxed at hB hC hx1
  go_enter Tryz.func29, Tryz.ntmps29
  go_upto_region 2 with (fail)
  generalize World.alloc w _ = w1 at hB hC hx1 ⊢
  replace hB := qh hB
  replace hx1 := qh hx1
  replace hC := qh (fun W (h : Below w1.heap.size w1 W) => Qs hC h)
  go_wp2_with fail
  go_loopw [5, 6] (fun s5 s6 wr => (∃ j v : Nat, j ≤ ks.length ∧ j < v ∧ v ≤ L + 1 ∧ s5 = .int .i64 v ∧ s6 = .int .i64 j ∧ Hid (totL ks L 1 = totL (ks.drop j) L v)) ∧ Hid (Below w1.heap.size w1 wr)) (fun _ s6 _ => ks.length - (intOf s6).toNat)
  case atStart => exact ⟨⟨0, 1, by omega, by omega, by omega, rfl, rfl, qh rfl⟩, qh (Below.refl w1.heap.size w1)⟩
  case round =>
   obtain ⟨⟨j, v, hj, hv1, hv2, rfl, rfl, hsj⟩, hbw⟩ := hrel
   obtain ⟨c0, c1, c2, c3, c4⟩ := hC.out wr hbw.out
   by_cases hlt : j < ks.length
   ·have hst := Qru (L := L) (n := v) hlt
    by_cases hvL : v ≤ L
    ·have hvi : (v : Int) ≤ L := by omega
     have hji : (j : Int) < ks.length := by omega
     rw [if_pos hvL] at hst
     obtain ⟨g, o, u, c, rfl, hu, hku⟩ := (hx1.out.low hbw.out).get j hlt
     have hsz := List.sizeOf_lt_of_mem (List.getElem_mem hlt)
     have hcall := ih.out ks[j] (by omega) (L - v) (by omega) u c wr hku
     have hle := Qbz ks[j] (L - v)
     replace hsj := qh (hsj.out.trans hst)
     clear hst hsz hku
     generalize ks[j] = x at hcall hu hsj hle
     obtain ⟨u0, u1, u2, u3, u4⟩ := hu
     generalize tot x (L - v) = tx1 at hcall hsj hle
     rw [show (((L - v : Nat) : Int)) = (L : Int) - v by omega] at hcall
     replace hcall := qh hcall
     go_wp2_with (first | (go_at_call 29; (with_reducible refine (hcall.out).mono ?_); rintro e w3 ⟨rfl, b3⟩; replace b3 := qh b3))
     go_roundw
     case rel => exact ⟨⟨j + 1, v + tx1, by omega, by omega, by omega, by go_num, by go_num, hsj⟩, qh (hbw.out.trans (b3.out.mono hbw.out.size))⟩
     case measure => simp [intOf]; omega
    ·have hvi : ¬ (v : Int) ≤ L := by omega
     have hji : (j : Int) < ks.length := by omega
     rw [if_neg hvL] at hst
     go_wp2_with fail
     refine bodyPost_ret (v := .int .i64 v) (by simp [results, Tryz.results29, go_sem]) rfl ⟨?_, hB.out.trans (hbw.out.mono hB.out.size)⟩
     rw [hr.out, hsj.out, hst]
   ·have hji : ¬ (j : Int) < ks.length := by omega
    go_wp2_with fail
    refine bodyPost_ret (v := .int .i64 v) (by simp [results, Tryz.results29, go_sem]) rfl ⟨?_, hB.out.trans (hbw.out.mono hB.out.size)⟩
    rw [hr.out, hsj.out, List.drop_eq_nil_of_le (by omega), Qbo]
theorem Qm9 : ∀ (m : Nat) (t : Syn), SizeOf.sizeOf t < m → cnt t ≤ 200 → ∀ (q : Option Addr) (d : Nat) (w : World), KidR w t.kids (.slice q t.kids.length d) →
  Calls Tryz.prog 30 #[Q3 t q d] w (Q6 w (Q1z t)) := by
 intro m
 induction m with
 | zero => intro t h; omega
 | succ m ih =>
  intro t hm hcn q d w hks
  obtain ⟨k, tx, n, a, ks⟩ := t
  replace hks : KidR w ks (.slice q ks.length d) := hks
  show Calls Tryz.prog 30 #[(Value.agg #[.int .i64 k, .string ⟨List.toArray tx⟩, .int .i64 n, .int .i64 a, .slice q ks.length d])] w _
  obtain ⟨res, hr⟩ : ∃ r, Hid (r = Q1z (.mk k tx n a ks)) := ⟨_, qh rfl⟩
  rw [← hr.out]
  replace hr := qh (hr.out.trans Qey)
  rw [Q8u] at hcn
  have hcl := Qhu ks
  have hcm : ∀ j (hj : j < ks.length), cnt ks[j] ≤ 200 := fun j hj => by have := Qh3 (List.getElem_mem hj); omega
  simp only [Syn.mk.sizeOf_spec] at hm
  replace ih := qh ih
  replace hcm := qh hcm
  have hB := Qf w k tx n a q ks.length d
  have hC := five (Qg w k tx n a q ks.length d)
  have hx1 := hks.low hB
  clear hks
  unfold boxed at hB hC hx1
  go_enter Tryz.func30, Tryz.ntmps30
  go_upto_region 1 with (fail)
  generalize World.alloc w _ = w1 at hB hC hx1 ⊢
  replace hB := qh hB
  replace hx1 := qh hx1
  replace hC := qh (fun W (h : Below w1.heap.size w1 W) => Qs hC h)
  obtain ⟨c0, c1, c2, c3, c4⟩ := hC.out w1 (Below.refl _ _)
  by_cases h1 : tx.length ≤ 100
  case neg =>
   have hi : (100 : Int) < tx.length := by omega
   replace hr := qh (hr.out.trans (show _ = false by rw [decide_eq_false h1]; rfl))
   go_wp2_with fail
   all_goals
    go_ret
    exact ⟨Q4 hr.out.symm, hB.out⟩
  have hi : ¬ (100 : Int) < tx.length := by omega
  replace hr := qh (hr.out.trans (show _ = shortL ks by rw [decide_eq_true h1]; rfl))
  go_upto_region 3 with (fail)
  clear c0 c1 c2 c3 c4
  go_wp2_with fail
  go_loopw [3] (fun s6 wr => (∃ j : Nat, j ≤ ks.length ∧ s6 = .int .i64 j ∧ Hid (shortL ks = shortL (ks.drop j))) ∧ Hid (Below w1.heap.size w1 wr)) (fun s6 _ => ks.length - (intOf s6).toNat)
  case atStart => exact ⟨⟨0, by omega, rfl, qh rfl⟩, qh (Below.refl w1.heap.size w1)⟩
  case round =>
   obtain ⟨⟨j, hj, rfl, hsj⟩, hbw⟩ := hrel
   obtain ⟨c0, c1, c2, c3, c4⟩ := hC.out wr hbw.out
   by_cases hlt : j < ks.length
   ·have hst := Qkl hlt
    have hji : (j : Int) < ks.length := by omega
    obtain ⟨g, o, u, c, rfl, hu, hku⟩ := (hx1.out.low hbw.out).get j hlt
    have hsz := List.sizeOf_lt_of_mem (List.getElem_mem hlt)
    have hcall := ih.out ks[j] (by omega) (hcm.out j hlt) u c wr hku
    replace hsj := qh (hsj.out.trans hst)
    clear hst hsz hku
    generalize ks[j] = x at hcall hu hsj
    obtain ⟨u0, u1, u2, u3, u4⟩ := hu
    replace hcall := qh hcall
    cases hsb : Q1z x with
    | false =>
     rw [hsb] at hcall
     have hr2 := qh (hr.out.trans (hsj.out.trans (show _ = false by rw [hsb]; first | done | rfl)))
     replace hsb := qh hsb
     go_wp2_with (first | (go_at_call 30; (with_reducible refine (hcall.out).mono ?_); rintro e w3 ⟨rfl, b3⟩; replace b3 := qh b3))
     refine bodyPost_ret (v := .bool false) (by simp [results, Tryz.results30, go_sem]) rfl ⟨Q4 hr2.out.symm, hB.out.trans ((hbw.out.trans (b3.out.mono hbw.out.size)).mono hB.out.size)⟩
    | true =>
     rw [hsb] at hcall
     have hsj' := qh (hsj.out.trans (by rw [hsb]; first | done | exact Bool.true_and _))
     replace hsb := qh hsb
     go_wp2_with (first | (go_at_call 30; (with_reducible refine (hcall.out).mono ?_); rintro e w3 ⟨rfl, b3⟩; replace b3 := qh b3))
     go_roundw
     case rel => exact ⟨⟨j + 1, by omega, by go_num, hsj'⟩, qh (hbw.out.trans (b3.out.mono hbw.out.size))⟩
     case measure => simp [intOf]; omega
   ·have hji : ¬ (j : Int) < ks.length := by omega
    go_wp2_with fail
    refine bodyPost_ret (v := .bool true) (by simp [results, Tryz.results30, go_sem]) rfl ⟨?_, hB.out.trans (hbw.out.mono hB.out.size)⟩
    refine Q4 ?_
    rw [hr.out, hsj.out, List.drop_eq_nil_of_le (by omega), Qj5]
theorem Qbh (t : Syn) (p : Option Addr) (c : Nat) (w : World) (hks : KidR w t.kids (.slice p t.kids.length c)) : Calls Tryz.prog 9 #[Q3 t p c] w (Q6 w (fewB t)) := by
 have hT := fun W (hb : Below w.heap.size w W) => Qnb _ t (Nat.lt_succ_self _) 200 (by omega) p c W (hks.low hb)
 have hS := fun (hc : cnt t ≤ 200) W (hb : Below w.heap.size w W) => Qm9 _ t (Nat.lt_succ_self _) hc p c W (hks.low hb)
 have hc2 : tot t 200 ≤ 200 → cnt t ≤ 200 := fun h => by rw [← Qcs t 200 h]; exact h
 obtain ⟨res, hr⟩ : ∃ r, Hid (r = fewB t) := ⟨_, qh rfl⟩
 rw [← hr.out]
 replace hr := qh (hr.out.trans (show _ = (decide (tot t 200 ≤ 200) && Q1z t) from rfl))
 generalize tot t 200 = tt at *
 generalize Q1z t = sb at *
 generalize cnt t = cc at *
 obtain ⟨k, tx, n, a, ks⟩ := t
 replace hT : ∀ W, Below w.heap.size w W → Calls Tryz.prog 29 #[(Value.agg #[.int .i64 k, .string ⟨List.toArray tx⟩, .int .i64 n, .int .i64 a, .slice p ks.length c]), .int .i64 200] W (Q30 W tt) := hT
 replace hS : cc ≤ 200 → ∀ W, Below w.heap.size w W → Calls Tryz.prog 30 #[(Value.agg #[.int .i64 k, .string ⟨List.toArray tx⟩, .int .i64 n, .int .i64 a, .slice p ks.length c])] W (Q6 W sb) := hS
 show Calls Tryz.prog 9 #[(Value.agg #[.int .i64 k, .string ⟨List.toArray tx⟩, .int .i64 n, .int .i64 a, .slice p ks.length c])] w _
 clear hks
 generalize ks.length = m at *
 replace hT := qh hT
 have hB := Qf w k tx n a p m c
 have hC := Qg w k tx n a p m c
 unfold boxed at hB hC
 go_enter Tryz.func9, Tryz.ntmps9
 go_upto_region 1 with (fail)
 generalize World.alloc w _ = w1 at hB hC ⊢
 obtain ⟨c0, c1, c2, c3, c4⟩ := five hC
 replace hB := qh hB
 replace hC := qh hC
 by_cases h2 : tt ≤ 200
 ·have hi : (tt : Int) ≤ 200 := by omega
  replace hS := qh (hS (hc2 h2))
  replace hr := qh (hr.out.trans (show _ = sb by rw [decide_eq_true h2]; rfl))
  replace h2 := qh h2
  have hF := qh (fun W (h : Below w1.heap.size w1 W) => Qs ⟨c0, c1, c2, c3, c4⟩ h)
  go_wp2_with (first | (go_at_call 29; (with_reducible refine (hT.out _ hB.out).mono ?_); rintro e x2 ⟨rfl, b2⟩; have hB2 := qh (hB.out.trans (b2.mono hB.out.size)); obtain ⟨d0, d1, d2, d3, d4⟩ := hF.out x2 b2) | (go_at_call 30; (with_reducible refine (hS.out _ hB2.out).mono ?_); rintro e x3 ⟨rfl, b3⟩))
  all_goals
   go_ret
   exact ⟨Q4 hr.out.symm, hB2.out.trans (b3.mono hB2.out.size)⟩
 ·have hi : ¬ (tt : Int) ≤ 200 := by omega
  replace hr := qh (hr.out.trans (show _ = false by rw [decide_eq_false h2]; rfl))
  replace h2 := qh h2
  go_wp2_with (first | (go_at_call 29; (with_reducible refine (hT.out _ hB.out).mono ?_); rintro e x2 ⟨rfl, b2⟩; have hB2 := qh (hB.out.trans (b2.mono hB.out.size))))
  all_goals
   go_ret
   exact ⟨Q4 hr.out.symm, hB2.out⟩
theorem Qmq {H : Type} {enc : TypeId × Value → H} {P : Program} {w : World} {base : Nat} {sp : Nat → Bool} {held : Bool} {fuel : Nat} {t e : TypeId} {n : Nat} {cs : List Value} {zs : List (List UInt8)} {p : List MemPlace}
  (ht : P.underlying t = some (.array n e)) (he : P.underlying e = some .string) (hce : P.cellsOf e = 1) (hct : P.cellsOf t = n)
  (h : DataW.trod enc P w base sp held fuel t cs = some (.agg (zs.map fun z => .lit (.string z)), p)) : cs = zs.map fun z => Value.string ⟨z.toArray⟩ := by
 cases fuel with
 | zero => simp [DataW.trod] at h
 | succ fuel =>
  simp only [DataW.trod, ht, hce, hct, Nat.mul_one] at h
  split at h
  ·rename_i hl
   obtain ⟨xs, hm, hx⟩ := Option.map_eq_some_iff.1 h
   have hxs : xs.map (·.1) = zs.map fun z => (DataW.lit (.string z) : DataW H) := by
    have := congrArg Prod.fst hx
    simpa using this
   have hxl : xs.length = n := by simpa using Lib.mapM_length hm
   have hzl : zs.length = n := by
    have := congrArg List.length hxs
    simp at this
    omega
   apply List.ext_getElem?
   intro i
   by_cases hi : i < n
   ·obtain ⟨b, hb, hf⟩ := Lib.mapM_at hm i i (by simp [hi])
    obtain ⟨z, hc, rfl, _⟩ := DataW.trod_string he hf
    have h1 : cs[i]? = some (.string z) := by
     have := congrArg (·[0]?) hc
     simpa [List.getElem?_take, List.getElem?_drop] using this
    have h2 : (xs.map (·.1))[i]? = some (DataW.lit (.string z.data.toList) : DataW H) := by simp [hb]
    rw [hxs] at h2
    simp only [List.getElem?_map, Option.map_eq_some_iff, DataW.lit.injEq, Lit.string.injEq] at h2
    obtain ⟨z', hz', e2⟩ := h2
    simp [h1, hz', e2]
   ·rw [List.getElem?_eq_none (by omega), List.getElem?_eq_none (by simp; omega)]
  ·cases h
theorem Qfl {W : World} {l : List (String × DataW Unit)} (h : laidMet Tryz.prog l W) (hl : l.filter (fun x => x.1 == "roundtable/lexer.signs") = [("roundtable/lexer.signs", .agg (Qv.map fun z => .lit (.string z)))]) : Q0q W := by
 have h1 := h.filter (fun x => x.1 == "roundtable/lexer.signs")
 rw [hl] at h1
 obtain ⟨ps, ⟨g', t', cs, fuel, p, q, hg', ht', hvar, hd, _, _⟩, _⟩ := h1
 obtain rfl := Option.some.inj ((show Tryz.prog.globalNamed "roundtable/lexer.signs" = some 0 by kernel_rfl).symm.trans hg')
 obtain rfl := Option.some.inj ((show (Tryz.prog.globals[0]?).map (·.type) = some 102 by kernel_rfl).symm.trans ht')
 have hc := Qmq Tryz.underlying102 Tryz.underlying9 (by kernel_rfl) (by kernel_rfl) hd
 unfold World.var? at hvar
 rw [hg'] at hvar
 simp only [Option.bind_some] at hvar
 have hcs : cs = Qa9 := by
  apply Array.toList_inj.1
  rw [hc]; rfl
 split at hvar
 ·rename_i c t fr hh
  simp only [Option.some.injEq] at hvar
  exact ⟨t, fr, by rw [hh, hvar, hcs]⟩
 ·cases hvar
theorem Qex {W : World} {l : List (String × DataW Unit)} (h : laidMet Tryz.prog l W) (hl : l.filter (fun x => x.1 == "strings.asciiSpace") = [("strings.asciiSpace", Lib.tabData .u8 Lib.asciiSpaceTab)]) : Q0p W := by
 have h1 := h.filter (fun x => x.1 == "strings.asciiSpace")
 rw [hl] at h1
 exact Lib.tabIs_of_head (g := 4) (t := 184) (e := 5) (n := 256) (by kernel_rfl) (by kernel_rfl) Tryz.underlying184 Tryz.underlying5 (by kernel_rfl) (by kernel_rfl) h1
theorem Qdc {W : World} {l : List (String × DataW Unit)} (h : laidMet Tryz.prog l W) (hl : l.filter (fun x => x.1 == "internal/strconv.uint64pow10") = [("internal/strconv.uint64pow10", Lib.tabData .u64 Lib.pow10Tab)]) : TabW W := by
 have h1 := h.filter (fun x => x.1 == "internal/strconv.uint64pow10")
 rw [hl] at h1
 exact Lib.tabIs_of_head (g := 1) (t := 172) (e := 153) (n := 20) (by kernel_rfl) (by kernel_rfl) Tryz.underlying172 Tryz.underlying153 (by kernel_rfl) (by kernel_rfl) h1
end Go.Proofs.YtplbfmcgddnkeaaGreatDoor
