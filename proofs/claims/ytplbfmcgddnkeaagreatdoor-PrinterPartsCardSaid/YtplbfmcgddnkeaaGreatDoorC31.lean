/- Walks of functions, and plain facts. -/
import Derived.Test.YtplbfmcgddnkeaaGreatDoorC30
import Derived.Test.YtplbfmcgddnkeaaGreatDoorC21
import Derived.Test.YtplbfmcgddnkeaaGreatDoorC06
import Derived.Test.YtplbfmcgddnkeaaGreatDoorC16
set_option linter.unusedVariables false
set_option linter.unusedSimpArgs false
set_option maxHeartbeats 20000000
set_option maxRecDepth 100000
namespace Go.Proofs.YtplbfmcgddnkeaaGreatDoor
open Go.RowKit
theorem Qid {s : List UInt8} {t : Syn} {j : Nat} (h : Qa s (rdK 1) = .ok t j) (hs : s.length ≤ 90000) (W : World) (hE : PEnv W) :
  Calls Tryz.prog 20 #[.string ⟨s.toArray⟩] W fun e w' => Below W.heap.size W w' ∧ ∃ (q : Option Addr) (d : Nat) (z : Int), e = .returned (.tuple #[Q3 t q d, .int .i64 z, .int .i64 0]) ∧ ∀ W', Keep (Fr W.heap.size) w' W' → KidR W' t.kids (.slice q t.kids.length d) := by
 refine (Qe2 s W hs hE).mono ?_
 rintro e w' hp
 obtain ⟨hb, y, q, d, z, he, hk, hy⟩ := hp.norm
 change Qa s (rdK 1) = _ at h
 change ∀ t j, Qa s (rdK 1) = _ → _ at hy
 obtain rfl := hy t j h
 refine ⟨hb, q, d, z, ?_, hk⟩
 rw [he]
 change Ending.returned (.tuple #[Q3 y q d, .int .i64 z, .int .i64 (errO (Qa s (rdK 1)))]) = _
 rw [h]
 rfl
theorem Qrw {s : List UInt8} {t : Syn} {j : Nat} (h : Qa s (rdK 2) = .ok t j) (hs : s.length ≤ 90000) (W : World) (hE : PEnv W) :
  Calls Tryz.prog 21 #[.string ⟨s.toArray⟩] W fun e w' => Below W.heap.size W w' ∧ ∃ (q : Option Addr) (d : Nat) (z : Int), e = .returned (.tuple #[Q3 t q d, .int .i64 z, .int .i64 0]) ∧ ∀ W', Keep (Fr W.heap.size) w' W' → KidR W' t.kids (.slice q t.kids.length d) := by
 refine (Qgs s W hs hE).mono ?_
 rintro e w' hp
 obtain ⟨hb, y, q, d, z, he, hk, hy⟩ := hp.norm
 change Qa s (rdK 2) = _ at h
 change ∀ t j, Qa s (rdK 2) = _ → _ at hy
 obtain rfl := hy t j h
 refine ⟨hb, q, d, z, ?_, hk⟩
 rw [he]
 change Ending.returned (.tuple #[Q3 y q d, .int .i64 z, .int .i64 (errO (Qa s (rdK 2)))]) = _
 rw [h]
 rfl
theorem Qk7 {s : List UInt8} {t : Syn} {j : Nat} (h : Qa s (rdK 3) = .ok t j) (hs : s.length ≤ 90000) (W : World) (hE : PEnv W) :
  Calls Tryz.prog 22 #[.string ⟨s.toArray⟩] W fun e w' => Below W.heap.size W w' ∧ ∃ (q : Option Addr) (d : Nat) (z : Int), e = .returned (.tuple #[Q3 t q d, .int .i64 z, .int .i64 0]) ∧ ∀ W', Keep (Fr W.heap.size) w' W' → KidR W' t.kids (.slice q t.kids.length d) := by
 refine (Qhm s W hs hE).mono ?_
 rintro e w' hp
 obtain ⟨hb, y, q, d, z, he, hk, hy⟩ := hp.norm
 change Qa s (rdK 3) = _ at h
 change ∀ t j, Qa s (rdK 3) = _ → _ at hy
 obtain rfl := hy t j h
 refine ⟨hb, q, d, z, ?_, hk⟩
 rw [he]
 change Ending.returned (.tuple #[Q3 y q d, .int .i64 z, .int .i64 (errO (Qa s (rdK 3)))]) = _
 rw [h]
 rfl
theorem Qi2 (w : World) (hE : PEnv w) (ht : TabW w) : Calls Tryz.prog 10 #[] w (Q6 w true) := by
 obtain ⟨cc, jcc, hocc, hpcc⟩ := Qq8
 have hRcc := fun W (hE : PEnv W) => Qid hocc (by decide) W hE
 obtain ⟨-, hMcc, hlcc⟩ := parsedK hocc (by decide)
 have hWcc : ∀ W q d, PEnv W → TabW W → KidR W cc.kids (.slice q cc.kids.length d) → Calls Tryz.prog 11 #[Q3 cc q d] W (Q00 W (prK 1 cc)) := fun W q d hE ht hk => Qc1 cc hMcc q d W hE ht hk (fun h => ⟨hlcc, Qfb h⟩)
 rw [hpcc] at hWcc
 clear hocc hpcc hMcc hlcc
 replace hRcc := qh hRcc
 replace hWcc := qh hWcc
 obtain ⟨ss, jss, hoss, hpss⟩ := Qjl
 have hRss := fun W (hE : PEnv W) => Qrw hoss (by decide) W hE
 obtain ⟨-, hMss, hlss⟩ := parsedK hoss (by decide)
 have hWss : ∀ W q d, PEnv W → TabW W → KidR W ss.kids (.slice q ss.kids.length d) → Calls Tryz.prog 13 #[Q3 ss q d] W (Q00 W (prK 2 ss)) := fun W q d hE ht hk => Qhr ss hMss q d W hE ht hk (fun h => ⟨hlss, Qgt h⟩)
 rw [hpss] at hWss
 clear hoss hpss hMss hlss
 replace hRss := qh hRss
 replace hWss := qh hWss
 obtain ⟨ff, jff, hoff, hpff⟩ := Qln
 have hRff := fun W (hE : PEnv W) => Qk7 hoff (by decide) W hE
 obtain ⟨-, hMff, hlff⟩ := parsedK hoff (by decide)
 have hWff : ∀ W q d, PEnv W → TabW W → KidR W ff.kids (.slice q ff.kids.length d) → Calls Tryz.prog 15 #[Q3 ff q d] W (Q00 W (prK 3 ff)) := fun W q d hE ht hk => Qgp ff hMff q d W hE ht hk (fun h => hlff)
 rw [hpff] at hWff
 clear hoff hpff hMff hlff
 replace hRff := qh hRff
 replace hWff := qh hWff
 have hWn : ∀ W, PEnv W → TabW W → Calls Tryz.prog 11 #[(Value.agg #[.int .i64 8, .string ⟨List.toArray [97,108,108]⟩, .int .i64 0, .int .i64 0, .slice none 0 0])] W (Q00 W ([], 3)) := fun W hE ht => by
  have h := Qc1 (.mk 8 [97, 108, 108] 0 0 []) (.mk (by decide) (by decide) (fun z h => (List.not_mem_nil h).elim)) none 0 W hE ht .nil (fun h => absurd h (show ¬ (okP 0 (.mk 8 [97, 108, 108] 0 0 []) = true) from by rw [show okP 0 (.mk 8 [97, 108, 108] 0 0 []) = false by kernel_rfl]; decide))
  rw [show Q1l (okP 0 (.mk 8 [97, 108, 108] 0 0 [])) (wrN 0 (.mk 8 [97, 108, 108] 0 0 [])) (Qa (wrN 0 (.mk 8 [97, 108, 108] 0 0 [])) (rdO .cond)) = ([], 3) from Qqn] at h
  exact h
 replace hWn := qh hWn
 have E := qh hE
 have Tb := qh ht
 have B := qh (Below.refl w.heap.size w)
 clear hE ht
 go_enter Tryz.func10, Tryz.ntmps10
 go_upto_region 2 with (first | (go_at_call 20; (with_reducible refine (hRcc.out _ E.out).mono ?_); rintro e w1 ⟨b1, qcc, dcc, zcc, rfl, hk1⟩; have bA := (Below.refl w1.heap.size w1).alloc (Nat.le_refl _) (.cells #[.int .i64 cc.kind, .string ⟨cc.text.toArray⟩, .int .i64 cc.num, .int .i64 cc.pos, .slice qcc cc.kids.length dcc] 24); have hn := heap_alloc_new w1 (.cells #[.int .i64 cc.kind, .string ⟨cc.text.toArray⟩, .int .i64 cc.num, .int .i64 cc.pos, .slice qcc cc.kids.length dcc] 24)))
 have bs := b1.trans (bA.mono b1.size)
 replace E := qh (E.out.below bs)
 replace Tb := qh (Q2b Tb.out bs)
 replace B := qh (B.out.trans (bs.mono B.out.size))
 have hkcc := qh ((hk1 _ (Keep.refl _ _)).low bA)
 have hncc := qh (five hn)
 clear bA b1 hk1 hn
 generalize World.alloc w1 _ = vcc at E Tb B hkcc hncc bs ⊢
 generalize w1.heap.size = Ncc at hncc ⊢
 clear bs
 go_upto_region 3 with (first | (go_at_call 21; (with_reducible refine (hRss.out _ E.out).mono ?_); rintro e w1 ⟨b1, qss, dss, zss, rfl, hk1⟩; have bA := (Below.refl w1.heap.size w1).alloc (Nat.le_refl _) (.cells #[.int .i64 ss.kind, .string ⟨ss.text.toArray⟩, .int .i64 ss.num, .int .i64 ss.pos, .slice qss ss.kids.length dss] 24); have hn := heap_alloc_new w1 (.cells #[.int .i64 ss.kind, .string ⟨ss.text.toArray⟩, .int .i64 ss.num, .int .i64 ss.pos, .slice qss ss.kids.length dss] 24)))
 have bs := b1.trans (bA.mono b1.size)
 replace E := qh (E.out.below bs)
 replace Tb := qh (Q2b Tb.out bs)
 replace B := qh (B.out.trans (bs.mono B.out.size))
 have hkss := qh ((hk1 _ (Keep.refl _ _)).low bA)
 have hnss := qh (five hn)
 clear bA b1 hk1 hn
 generalize World.alloc w1 _ = vss at E Tb B hkss hnss bs ⊢
 generalize w1.heap.size = Nss at hnss ⊢
 replace hkcc := qh (hkcc.out.low bs)
 replace hncc := qh (Qs hncc.out bs)
 clear bs
 go_upto_region 4 with (first | (go_at_call 22; (with_reducible refine (hRff.out _ E.out).mono ?_); rintro e w1 ⟨b1, qff, dff, zff, rfl, hk1⟩; have bA := (Below.refl w1.heap.size w1).alloc (Nat.le_refl _) (.cells #[.int .i64 ff.kind, .string ⟨ff.text.toArray⟩, .int .i64 ff.num, .int .i64 ff.pos, .slice qff ff.kids.length dff] 24); have hn := heap_alloc_new w1 (.cells #[.int .i64 ff.kind, .string ⟨ff.text.toArray⟩, .int .i64 ff.num, .int .i64 ff.pos, .slice qff ff.kids.length dff] 24)))
 have bs := b1.trans (bA.mono b1.size)
 replace E := qh (E.out.below bs)
 replace Tb := qh (Q2b Tb.out bs)
 replace B := qh (B.out.trans (bs.mono B.out.size))
 have hkff := qh ((hk1 _ (Keep.refl _ _)).low bA)
 have hnff := qh (five hn)
 clear bA b1 hk1 hn
 generalize World.alloc w1 _ = vff at E Tb B hkff hnff bs ⊢
 generalize w1.heap.size = Nff at hnff ⊢
 replace hkcc := qh (hkcc.out.low bs)
 replace hncc := qh (Qs hncc.out bs)
 replace hkss := qh (hkss.out.low bs)
 replace hnss := qh (Qs hnss.out bs)
 clear bs
 obtain ⟨y0, y1, y2, y3, y4⟩ := hncc.out
 go_upto_region 5 with (first | (go_at_call 11; (with_reducible refine (hWcc.out _ _ _ E.out Tb.out hkcc.out).mono ?_); rintro e w1 ⟨rfl, bs⟩))
 clear y0 y1 y2 y3 y4 hkcc hncc
 replace E := qh (E.out.below bs)
 replace Tb := qh (Q2b Tb.out bs)
 replace B := qh (B.out.trans (bs.mono B.out.size))
 replace hkss := qh (hkss.out.low bs)
 replace hnss := qh (Qs hnss.out bs)
 replace hkff := qh (hkff.out.low bs)
 replace hnff := qh (Qs hnff.out bs)
 clear bs
 obtain ⟨y0, y1, y2, y3, y4⟩ := hnss.out
 go_upto_region 6 with (first | (go_at_call 13; (with_reducible refine (hWss.out _ _ _ E.out Tb.out hkss.out).mono ?_); rintro e w1 ⟨rfl, bs⟩))
 clear y0 y1 y2 y3 y4 hkss hnss
 replace E := qh (E.out.below bs)
 replace Tb := qh (Q2b Tb.out bs)
 replace B := qh (B.out.trans (bs.mono B.out.size))
 replace hkff := qh (hkff.out.low bs)
 replace hnff := qh (Qs hnff.out bs)
 clear bs
 obtain ⟨y0, y1, y2, y3, y4⟩ := hnff.out
 go_upto_region 7 with (first | (go_at_call 15; (with_reducible refine (hWff.out _ _ _ E.out Tb.out hkff.out).mono ?_); rintro e w1 ⟨rfl, bs⟩))
 clear y0 y1 y2 y3 y4 hkff hnff
 replace E := qh (E.out.below bs)
 replace Tb := qh (Q2b Tb.out bs)
 replace B := qh (B.out.trans (bs.mono B.out.size))
 clear bs
 go_wp2_with (first | (go_at_call 11; (with_reducible refine (hWn.out _ E.out Tb.out).mono ?_); rintro e w2 ⟨rfl, b2⟩))
 all_goals
  go_ret
  exact ⟨rfl, B.out.trans (b2.mono B.out.size)⟩
theorem boxK (w : World) (k : Int) (tx : List UInt8) (n a : Int) (p : Option Addr) (m c : Nat) {w1 : World} (h : w1 = World.alloc w (.cells #[.int .i64 k, .string ⟨List.toArray tx⟩, .int .i64 n, .int .i64 a, .slice p m c] 24)) :
  Hid (Below w.heap.size w w1) ∧ Hid (∀ W, Below w1.heap.size w1 W → Five W w.heap.size (.int .i64 k) (.string ⟨List.toArray tx⟩) (.int .i64 n) (.int .i64 a) (.slice p m c)) ∧ Hid (Below w1.heap.size w1 w1) ∧ Five w1 w.heap.size (.int .i64 k) (.string ⟨List.toArray tx⟩) (.int .i64 n) (.int .i64 a) (.slice p m c) := by
 subst h
 exact ⟨Qf w k tx n a p m c, fun W h => Qs (five (Qg w k tx n a p m c)) h, Below.refl _ _, five (Qg w k tx n a p m c)⟩
theorem Qht (n : Int) (w : World) : Calls Tryz.prog 114 #[.int .i64 n] w fun e w' => e = .returned (.bool (natB n)) ∧ w' = w := by
 by_cases h0 : (0 : Int) ≤ n
 ·by_cases h1 : n ≤ (1048576 : Int)
  all_goals
   have hr : natB n = decide (n ≤ 1048576) := by unfold natB; simp [h0]
   rw [hr]
   go_enter Tryz.func114, Tryz.ntmps114
   go_wp2
   go_ret
   exact ⟨by simp [h1], rfl⟩
 ·have hr : natB n = false := by unfold natB; simp [h0]
  rw [hr]
  go_enter Tryz.func114, Tryz.ntmps114
  go_wp2
  go_ret
  exact ⟨rfl, rfl⟩
theorem Q8l (k : Int) (tx : List UInt8) (n a : Int) (p : Option Addr) (ks : List Syn) (c : Nat) (w : World) : Calls Tryz.prog 151 #[(Value.agg #[.int .i64 k, .string ⟨List.toArray tx⟩, .int .i64 n, .int .i64 a, .slice p ks.length c])] w fun e w' => e = .returned (.bool (Q2 (.mk k tx n a ks))) ∧ Below w.heap.size w w' := by
 have hN := Qht n
 have hr : Q2 (.mk k tx n a ks) = (decide (k = 9) && (tx == []) && natB n && decide ((ks.length : Int) = 0)) := by cases ks <;> rfl
 rw [hr]
 replace hN := qh hN
 clear hr
 have hB := Qf w k tx n a p ks.length c
 have hC := Qg w k tx n a p ks.length c
 unfold boxed at hB hC
 go_enter Tryz.func151, Tryz.ntmps151
 go_upto_region 1 with (fail)
 generalize World.alloc w _ = w1 at hB hC ⊢
 obtain ⟨c0, c1, c2, c3, c4⟩ := five hC
 replace hB := qh hB
 replace hC := qh hC
 go_wp2_with (go_at_call 114; (with_reducible refine (hN.out _).mono ?_); rintro e w2 ⟨rfl, rfl⟩)
 all_goals
  go_ret
  exact ⟨Q4 (by simp_all [beqI]), hB.out⟩
theorem Qa0 (k : Int) (tx : List UInt8) (n a : Int) (p : Option Addr) (ks : List Syn) (c : Nat) (w : World) (ht : tx.length ≤ 1000000) : Calls Tryz.prog 152 #[(Value.agg #[.int .i64 k, .string ⟨List.toArray tx⟩, .int .i64 n, .int .i64 a, .slice p ks.length c])] w fun e w' => e = .returned (.bool (isNm (.mk k tx n a ks))) ∧ Below w.heap.size w w' := by
 have hN := fun W (hb : Below w.heap.size w W) => Qj2 tx W (by omega)
 have hr : isNm (.mk k tx n a ks) = (decide (k = 8) && decide (n = 0) && decide ((ks.length : Int) = 0) && decide ((Q13 tx : Int) = 0)) := by
  have : Q1h tx = decide ((Q13 tx : Int) = 0) := by
   unfold Q1h Q13
   cases Q0c 0 tx <;> cases Q0 tx <;> simp
  rw [← this]
  cases ks <;> rfl
 rw [hr]
 replace hN := qh hN
 clear hr
 generalize Q13 tx = ne at hN ⊢
 have hB := Qf w k tx n a p ks.length c
 have hC := Qg w k tx n a p ks.length c
 unfold boxed at hB hC
 go_enter Tryz.func152, Tryz.ntmps152
 go_upto_region 1 with (fail)
 generalize World.alloc w _ = w1 at hB hC ⊢
 obtain ⟨c0, c1, c2, c3, c4⟩ := five hC
 replace hB := qh hB
 replace hC := qh hC
 go_wp2_with (go_at_call 156; (with_reducible refine (hN.out _ hB.out).mono ?_); rintro e w2 ⟨rfl, b2⟩)
 all_goals
  go_ret
  first
   | exact ⟨Q4 (by simp_all [beqI]), hB.out.trans (b2.mono hB.out.size)⟩
   | exact ⟨Q4 (by simp_all [beqI]), hB.out⟩
theorem Qo4 (s : List UInt8) (ws : List (List UInt8)) (b c : Nat) (w : World) (hc : ∀ i (hi : i < ws.length), w.cell? ⟨b, i, none⟩ = some (.string ⟨ws[i].toArray⟩)) (hl : ws.length ≤ 100) :
  Calls Tryz.prog 153 #[.string ⟨s.toArray⟩, .slice (some ⟨b, 0, none⟩) ws.length c] w fun e w' => e = .returned (.bool (ws.contains s)) ∧ w' = w := by
 replace hc := qh hc
 obtain ⟨res, hr⟩ : ∃ r, Hid (r = ws.contains s) := ⟨_, qh rfl⟩
 rw [← hr.out]
 go_enter Tryz.func153, Tryz.ntmps153
 go_wp2_with fail
 go_loopw [5] (fun s5 wr => wr = w ∧ ∃ j : Nat, j ≤ ws.length ∧ s5 = .int .i64 j ∧ Hid (∀ t (ht : t < ws.length), t < j → ws[t] ≠ s)) (fun s5 _ => ws.length - (intOf s5).toNat)
 case atStart => exact ⟨rfl, 0, by omega, rfl, qh (fun t ht h => by omega)⟩
 case round =>
  obtain ⟨rfl, j, hj, rfl, hno⟩ := hrel
  by_cases hlt : j < ws.length
  ·have hji : (j : Int) < ws.length := by omega
   have hcj := hc.out j hlt
   generalize hx : ws[j] = x at hcj
   replace hx := qh hx
   cases hb : (x == s) with
   | true =>
    go_wp2_with fail
    refine bodyPost_ret (v := .bool true) (by simp [results, Tryz.results153, go_sem]) rfl ⟨Q4 ?_, rfl⟩
    rw [hr.out, eq_comm, List.contains_iff_mem, ← beq_iff_eq.1 hb, ← hx.out]
    exact List.getElem_mem hlt
   | false =>
    go_wp2_with fail
    go_roundw
    case rel => exact ⟨trivial, j + 1, by omega, by go_num, qh (fun t ht h => by
     by_cases e : t = j
     ·subst e; rw [hx.out]; exact beq_eq_false_iff_ne.1 hb
     ·exact hno.out t ht (by omega))⟩
    case measure => simp [intOf]; omega
  ·have hji : ¬ (j : Int) < ws.length := by omega
   go_wp2_with fail
   refine bodyPost_ret (v := .bool false) (by simp [results, Tryz.results153, go_sem]) rfl ⟨Q4 ?_, rfl⟩
   rw [hr.out, eq_comm]
   cases hcs : ws.contains s with
   | false => rfl
   | true =>
    obtain ⟨t, ht, e⟩ := List.mem_iff_getElem.1 (List.contains_iff_mem.1 hcs)
    exact absurd e (hno.out t ht (by omega))
theorem Q37 {tx : List UInt8} {ws : List (List UInt8)} {n : Nat} {cs : Array Value} {T : TypeId} {W : World} {v : Bool} (hn : ws.length = n) (hcs : cs = (ws.map fun z => Value.string ⟨z.toArray⟩).toArray) (h1 : n ≤ 100) (hv : ws.contains tx = v) :
  Calls Tryz.prog 153 #[.string ⟨tx.toArray⟩, .slice (some ⟨W.heap.size, 0, none⟩) n n] (W.alloc (.cells cs T)) fun e w' => e = .returned (.bool v) ∧ Below W.heap.size W w' := by
 subst hn hv
 refine (Qo4 tx ws W.heap.size ws.length (W.alloc (.cells cs T)) (fun i hi => ?_) h1).mono ?_
 ·rw [World.cell?, heap_alloc_new]
  subst hcs
  simp [hi]
 ·rintro e w' ⟨rfl, rfl⟩
  exact ⟨rfl, (Below.refl _ _).alloc (Nat.le_refl _) _⟩
theorem Qce (l : List Syn) (p : Option Addr) (c : Nat) (w : World) (hk : KidR w l (.slice p l.length c)) (hl : l.length ≤ 100000) :
  Calls Tryz.prog 154 #[.slice p l.length c] w (Q6 w (l.all Q2)) := by
 obtain ⟨res, hr⟩ : ∃ r, Hid (r = l.all Q2) := ⟨_, qh rfl⟩
 rw [← hr.out]
 replace hk := qh hk
 go_enter Tryz.func154, Tryz.ntmps154
 go_wp2_with fail
 go_loopw [3] (fun s3 wr => (∃ j : Nat, j ≤ l.length ∧ s3 = .int .i64 j ∧ Hid (∀ t (ht : t < l.length), t < j → Q2 l[t] = true)) ∧ Hid (Below w.heap.size w wr)) (fun s3 _ => l.length - (intOf s3).toNat)
 case atStart => exact ⟨⟨0, by omega, rfl, qh (fun t ht h => by omega)⟩, qh (Below.refl w.heap.size w)⟩
 case round =>
  obtain ⟨⟨j, hj, rfl, hno⟩, hb⟩ := hrel
  by_cases hlt : j < l.length
  ·have hji : (j : Int) < l.length := by omega
   obtain ⟨b, o, q, d, rfl, hc, hkk⟩ := (hk.out.low hb.out).get j hlt
   obtain ⟨c0, c1, c2, c3, c4⟩ := hc
   have hC := Q8l l[j].kind l[j].text l[j].num l[j].pos q l[j].kids d wr
   have hx : Hid (Q2 l[j] = Q2 (.mk l[j].kind l[j].text l[j].num l[j].pos l[j].kids)) := qh rfl
   cases hp : Q2 (.mk l[j].kind l[j].text l[j].num l[j].pos l[j].kids)
   ·rw [hp] at hC hx
    replace hC := qh hC
    replace hp := qh hp
    replace hkk := qh hkk
    go_wp2_with (go_at_call 151; (with_reducible refine (hC.out).mono ?_); rintro e w2 ⟨rfl, b2⟩)
    refine bodyPost_ret (v := .bool false) (by simp [results, Tryz.results154, go_sem]) rfl ⟨Q4 ?_, hb.out.trans (b2.mono hb.out.size)⟩
    rw [hr.out, eq_comm, List.all_eq_false]
    exact ⟨l[j], List.getElem_mem hlt, by rw [hx.out]; decide⟩
   ·rw [hp] at hC hx
    replace hC := qh hC
    replace hp := qh hp
    replace hkk := qh hkk
    go_wp2_with (go_at_call 151; (with_reducible refine (hC.out).mono ?_); rintro e w2 ⟨rfl, b2⟩)
    go_roundw
    case rel => exact ⟨⟨j + 1, by omega, by go_num, qh (fun t ht h => by
     by_cases e : t = j
     ·subst e; exact hx.out
     ·exact hno.out t ht (by omega))⟩, qh (hb.out.trans (b2.mono hb.out.size))⟩
    case measure => simp [intOf]; omega
  ·have hji : ¬ (j : Int) < l.length := by omega
   go_wp2_with fail
   refine bodyPost_ret (v := .bool true) (by simp [results, Tryz.results154, go_sem]) rfl ⟨Q4 ?_, hb.out⟩
   rw [hr.out, eq_comm, List.all_eq_true]
   intro x hx
   obtain ⟨t, ht, rfl⟩ := List.mem_iff_getElem.1 hx
   exact hno.out t ht (by omega)
def rown (k : Nat) (t : List UInt8) : Nat := if t = Q0n then 0 else if t = kOr then (if k = 2 then 1 else 0) else if t = kAnd then (if k = 2 then 2 else 1) else if t = Qb then 2 else if t = [43] ∨ t = [45] then 3 else 2
def rlft (k : Nat) (t : List UInt8) : Nat := if t = Q0n then 1 else if t = kOr then (if k = 2 then 1 else 0) else if t = kAnd then (if k = 2 then 2 else 1) else if t = Qb then 3 else if t = [43] ∨ t = [45] then 3 else 3
def rrgt (k : Nat) (t : List UInt8) : Nat := if t = Q0n then 0 else if t = kOr then (if k = 2 then 2 else 1) else if t = kAnd then (if k = 2 then 3 else 2) else if t = Qb then 2 else if t = [43] ∨ t = [45] then 4 else 3
def rlvl (k : Nat) (t : Syn) : Nat := if t.kind = 13 ∧ t.text ≠ Qe then 2 else if t.kind = 12 ∧ k = 0 then 2 else if t.kind ≠ 11 then 4 else rown k t.text
theorem Qbk (kd : Int) (tx : List UInt8) (n a : Int) (p : Option Addr) (ks : List Syn) (c : Nat) (w : World) : Calls Tryz.prog 120 #[(Value.agg #[.int .i64 kd, .string ⟨List.toArray tx⟩, .int .i64 n, .int .i64 a, .slice p ks.length c]), .int .i64 1] w (Q30 w (rlvl 0 (.mk kd tx n a ks))) := by
 have hr : rlvl 0 (.mk kd tx n a ks) = if kd = 13 ∧ tx ≠ Qe then 2 else if kd = 12 ∧ 0 = 0 then 2 else if kd ≠ 11 then 4 else rown 0 tx := rfl
 rw [hr]
 obtain ⟨res, hr2⟩ : ∃ r, Hid (r = if kd = 13 ∧ tx ≠ Qe then 2 else if kd = 12 ∧ 0 = 0 then 2 else if kd ≠ 11 then 4 else rown 0 tx) := ⟨_, qh rfl⟩
 rw [← hr2.out]
 clear hr
 have hB := Qf w kd tx n a p ks.length c
 have hC := Qg w kd tx n a p ks.length c
 unfold boxed at hB hC
 go_enter Tryz.func120, Tryz.ntmps120
 go_upto_region 1 with (fail)
 generalize World.alloc w _ = w1 at hB hC ⊢
 obtain ⟨c0, c1, c2, c3, c4⟩ := five hC
 replace hB := qh hB
 replace hC := qh hC
 go_wp2_with fail
 all_goals
  go_ret
  refine ⟨Q27 ?_, hB.out⟩
  rw [hr2.out]
  clear hr2 hB hC c0 c1 c2 c3 c4
  first | (simp_all [rown, beqI, Q0n, kOr, kAnd, Qb, Qe]; done) | (simp [*, rown, Q0n, kOr, kAnd, Qb, Qe]; done)
theorem Qob (kd : Int) (tx : List UInt8) (n a : Int) (p : Option Addr) (ks : List Syn) (c : Nat) (w : World) : Calls Tryz.prog 120 #[(Value.agg #[.int .i64 kd, .string ⟨List.toArray tx⟩, .int .i64 n, .int .i64 a, .slice p ks.length c]), .int .i64 2] w (Q30 w (rlvl 1 (.mk kd tx n a ks))) := by
 have hr : rlvl 1 (.mk kd tx n a ks) = if kd = 13 ∧ tx ≠ Qe then 2 else if kd = 12 ∧ 1 = 0 then 2 else if kd ≠ 11 then 4 else rown 1 tx := rfl
 rw [hr]
 obtain ⟨res, hr2⟩ : ∃ r, Hid (r = if kd = 13 ∧ tx ≠ Qe then 2 else if kd = 12 ∧ 1 = 0 then 2 else if kd ≠ 11 then 4 else rown 1 tx) := ⟨_, qh rfl⟩
 rw [← hr2.out]
 clear hr
 have hB := Qf w kd tx n a p ks.length c
 have hC := Qg w kd tx n a p ks.length c
 unfold boxed at hB hC
 go_enter Tryz.func120, Tryz.ntmps120
 go_upto_region 1 with (fail)
 generalize World.alloc w _ = w1 at hB hC ⊢
 obtain ⟨c0, c1, c2, c3, c4⟩ := five hC
 replace hB := qh hB
 replace hC := qh hC
 go_wp2_with fail
 all_goals
  go_ret
  refine ⟨Q27 ?_, hB.out⟩
  rw [hr2.out]
  clear hr2 hB hC c0 c1 c2 c3 c4
  first | (simp_all [rown, beqI, Q0n, kOr, kAnd, Qb, Qe]; done) | (simp [*, rown, Q0n, kOr, kAnd, Qb, Qe]; done)
theorem Qn4 (kd : Int) (tx : List UInt8) (n a : Int) (p : Option Addr) (ks : List Syn) (c : Nat) (w : World) : Calls Tryz.prog 120 #[(Value.agg #[.int .i64 kd, .string ⟨List.toArray tx⟩, .int .i64 n, .int .i64 a, .slice p ks.length c]), .int .i64 3] w (Q30 w (rlvl 2 (.mk kd tx n a ks))) := by
 have hr : rlvl 2 (.mk kd tx n a ks) = if kd = 13 ∧ tx ≠ Qe then 2 else if kd = 12 ∧ 2 = 0 then 2 else if kd ≠ 11 then 4 else rown 2 tx := rfl
 rw [hr]
 obtain ⟨res, hr2⟩ : ∃ r, Hid (r = if kd = 13 ∧ tx ≠ Qe then 2 else if kd = 12 ∧ 2 = 0 then 2 else if kd ≠ 11 then 4 else rown 2 tx) := ⟨_, qh rfl⟩
 rw [← hr2.out]
 clear hr
 have hB := Qf w kd tx n a p ks.length c
 have hC := Qg w kd tx n a p ks.length c
 unfold boxed at hB hC
 go_enter Tryz.func120, Tryz.ntmps120
 go_upto_region 1 with (fail)
 generalize World.alloc w _ = w1 at hB hC ⊢
 obtain ⟨c0, c1, c2, c3, c4⟩ := five hC
 replace hB := qh hB
 replace hC := qh hC
 go_wp2_with fail
 all_goals
  go_ret
  refine ⟨Q27 ?_, hB.out⟩
  rw [hr2.out]
  clear hr2 hB hC c0 c1 c2 c3 c4
  first | (simp_all [rown, beqI, Q0n, kOr, kAnd, Qb, Qe]; done) | (simp [*, rown, Q0n, kOr, kAnd, Qb, Qe]; done)
theorem Qhq (tx : List UInt8) (w : World) : Calls Tryz.prog 119 #[.string ⟨tx.toArray⟩, .int .i64 1] w fun e w' => e = .returned (.tuple #[.int .i64 (rlft 0 tx), .int .i64 (rrgt 0 tx)]) ∧ w' = w := by
 obtain ⟨res, hr⟩ : ∃ r, Hid (r = rlft 0 tx) := ⟨_, qh rfl⟩
 obtain ⟨res2, hr2⟩ : ∃ r, Hid (r = rrgt 0 tx) := ⟨_, qh rfl⟩
 rw [← hr.out, ← hr2.out]
 go_enter Tryz.func119, Tryz.ntmps119
 go_wp2_with fail
 all_goals
  refine bodyPost_ret (v := .tuple #[.int .i64 res, .int .i64 res2]) ?_ rfl ⟨rfl, rfl⟩
  rw [hr.out, hr2.out]
  clear hr hr2
  first | (simp_all [results, Tryz.results119, go_sem, rlft, rrgt, Q0n, kOr, kAnd, Qb, Qe]; done) | (simp [*, results, Tryz.results119, go_sem, rlft, rrgt, Q0n, kOr, kAnd, Qb, Qe]; done)
theorem Qjp (tx : List UInt8) (w : World) : Calls Tryz.prog 119 #[.string ⟨tx.toArray⟩, .int .i64 2] w fun e w' => e = .returned (.tuple #[.int .i64 (rlft 1 tx), .int .i64 (rrgt 1 tx)]) ∧ w' = w := by
 obtain ⟨res, hr⟩ : ∃ r, Hid (r = rlft 1 tx) := ⟨_, qh rfl⟩
 obtain ⟨res2, hr2⟩ : ∃ r, Hid (r = rrgt 1 tx) := ⟨_, qh rfl⟩
 rw [← hr.out, ← hr2.out]
 go_enter Tryz.func119, Tryz.ntmps119
 go_wp2_with fail
 all_goals
  refine bodyPost_ret (v := .tuple #[.int .i64 res, .int .i64 res2]) ?_ rfl ⟨rfl, rfl⟩
  rw [hr.out, hr2.out]
  clear hr hr2
  first | (simp_all [results, Tryz.results119, go_sem, rlft, rrgt, Q0n, kOr, kAnd, Qb, Qe]; done) | (simp [*, results, Tryz.results119, go_sem, rlft, rrgt, Q0n, kOr, kAnd, Qb, Qe]; done)
theorem Qny (tx : List UInt8) (w : World) : Calls Tryz.prog 119 #[.string ⟨tx.toArray⟩, .int .i64 3] w fun e w' => e = .returned (.tuple #[.int .i64 (rlft 2 tx), .int .i64 (rrgt 2 tx)]) ∧ w' = w := by
 obtain ⟨res, hr⟩ : ∃ r, Hid (r = rlft 2 tx) := ⟨_, qh rfl⟩
 obtain ⟨res2, hr2⟩ : ∃ r, Hid (r = rrgt 2 tx) := ⟨_, qh rfl⟩
 rw [← hr.out, ← hr2.out]
 go_enter Tryz.func119, Tryz.ntmps119
 go_wp2_with fail
 all_goals
  refine bodyPost_ret (v := .tuple #[.int .i64 res, .int .i64 res2]) ?_ rfl ⟨rfl, rfl⟩
  rw [hr.out, hr2.out]
  clear hr hr2
  first | (simp_all [results, Tryz.results119, go_sem, rlft, rrgt, Q0n, kOr, kAnd, Qb, Qe]; done) | (simp [*, results, Tryz.results119, go_sem, rlft, rrgt, Q0n, kOr, kAnd, Qb, Qe]; done)
theorem Qhd {d : Nat} (h : d < 10) : Utf8.encode (48 + (d : Int)) = ⟨List.toArray [UInt8.ofNat (48 + d)]⟩ := by
 have key : ∀ d : Fin 10, Utf8.encode (48 + (d.val : Int)) = ⟨List.toArray [UInt8.ofNat (48 + d.val)]⟩ := by decide
 exact key ⟨d, h⟩
theorem Qn1 {f m : Nat} {l : List UInt8} (h : 10 ≤ m) (hf : m < f) : ∃ g, m / 10 < g ∧ Q0f f m l = Q0f g (m / 10) (UInt8.ofNat (48 + m % 10) :: l) := by
 cases f with
 | zero => omega
 | succ f => exact ⟨f, by omega, by rw [Q0f, if_neg (by omega)]⟩
theorem Qs6 {f m : Nat} {l : List UInt8} (h : m < 10) (hf : m < f) : Q0f f m l = UInt8.ofNat (48 + m) :: l := by
 cases f with
 | zero => omega
 | succ f => rw [Q0f, if_pos h]
theorem Qct (n : Nat) (hn : n ≤ 1048576) (w : World) : Calls Tryz.prog 61 #[.int .i64 n] w fun e w' => e = .returned (.string ⟨(dec n).toArray⟩) ∧ w' = w := by
 obtain ⟨res, hr⟩ : ∃ r, Hid (r = dec n) := ⟨_, qh rfl⟩
 rw [← hr.out]
 go_enter Tryz.func61, Tryz.ntmps61
 go_wp2_with fail
 go_loopw [0, 3] (fun s0 s3 wr => wr = w ∧ ∃ (m : Nat) (l : List UInt8), s0 = .int .i64 m ∧ s3 = .string ⟨l.toArray⟩ ∧ l.length + m ≤ 1048576 ∧ Hid (∃ f, m < f ∧ dec n = Q0f f m l)) (fun s0 _ _ => (intOf s0).toNat)
 case atStart => exact ⟨rfl, n, [], rfl, rfl, by simpa using hn, qh ⟨n + 1, by omega, rfl⟩⟩
 case round =>
  obtain ⟨rfl, m, l, rfl, rfl, hm, hd⟩ := hrel
  have hl : (l.length : Int) ≤ 1048576 := by omega
  by_cases h9 : 9 < m
  ·have h9i : (9 : Int) < m := by omega
   have hmod : (m : Int).tmod 10 = ((m % 10 : Nat) : Int) := by rw [Int.tmod_eq_emod_of_nonneg (by omega)]; omega
   have hquo : (m : Int).tdiv 10 = ((m / 10 : Nat) : Int) := by rw [Int.tdiv_eq_ediv_of_nonneg (by omega)]; omega
   have hen := Qhd (Nat.mod_lt m (by decide : 0 < 10))
   have hlt : m % 10 < 10 := Nat.mod_lt m (by decide)
   have hdv : m / 10 < m := by omega
   have hd2 : Hid (∃ f, m / 10 < f ∧ dec n = Q0f f (m / 10) (UInt8.ofNat (48 + m % 10) :: l)) := qh (by
    obtain ⟨f, h1, h2⟩ := hd.out
    obtain ⟨g, h3, h4⟩ := Qn1 (l := l) (by omega : 10 ≤ m) h1
    exact ⟨g, h3, h2.trans h4⟩)
   clear hd
   generalize UInt8.ofNat (48 + m % 10) = c at *
   generalize m % 10 = d at *
   generalize m / 10 = q at *
   have hdi : (d : Int) < 10 := by omega
   go_wp2_with fail
   go_roundw
   case rel => exact ⟨trivial, q, c :: l, by go_num, rfl, by simp only [List.length_cons]; omega, hd2⟩
   case measure => simp [intOf]; omega
  ·have h9i : ¬ (9 : Int) < m := by omega
   have hen := Qhd (by omega : m < 10)
   have hres : Hid (dec n = UInt8.ofNat (48 + m) :: l) := qh (by
    obtain ⟨f, h1, h2⟩ := hd.out
    exact h2.trans (Qs6 (by omega) h1))
   clear hd
   generalize UInt8.ofNat (48 + m) = c at *
   go_wp2_with fail
   refine bodyPost_ret (v := .string ⟨List.toArray (c :: l)⟩) (by simp [results, Tryz.results61, go_sem]) rfl ⟨?_, rfl⟩
   rw [hr.out, hres.out]
end Go.Proofs.YtplbfmcgddnkeaaGreatDoor
