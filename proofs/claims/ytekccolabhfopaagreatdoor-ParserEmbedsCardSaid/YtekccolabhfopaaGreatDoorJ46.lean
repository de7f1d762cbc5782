/- Joined: LawEmb. -/
import Derived.Outline
import Derived.Deep.RegionHeld2
import Derived.Deep.CutRange
import Derived.Test.YtekccolabhfopaaGreatDoorJ45
set_option linter.unusedVariables false
set_option linter.unusedSimpArgs false
section
/- Walks: the statement ParserEmbeds. -/
set_option maxHeartbeats 4000000
set_option maxRecDepth 100000
namespace Go.Proofs.YtekccolabhfopaaGreatDoor
open Go.RowKit
theorem run_storeAt_syn {w : World} {B : Nat} {k n p : Int} {s : ByteArray} {g : Option Addr} {m c : Nat} (h : SynBlk w B) :
    (Instr.storeAt 26 (.pointer (some ⟨B, 0, none⟩)) (.agg #[.int .i64 k, .string s, .int .i64 n, .int .i64 p, .slice g m c])).run Tryz.prog w = .ok () (setSyn w B (.int .i64 k) (.string s) (.int .i64 n) (.int .i64 p) (.slice g m c)) := by
  obtain ⟨a0, b0, c0, d0, e0, T, h⟩ := h
  exact run_storeAt_mid w B 0 26 #[.int .i64 k, .string s, .int .i64 n, .int .i64 p, .slice g m c] (fun j hj => by
      refine ⟨?_, Lib.frozen_of_heap h _⟩
      rw [World.cell?, h]
      have : j < 5 := hj
      rcases j with _ | _ | _ | _ | _ | j <;> first | rfl | omega) (by kernel_rfl) (by simp [Value.oneCell'])
theorem SynBlk.setSyn {w : World} {B C : Nat} (h : SynBlk w C) (v0 v1 v2 v3 v4 : Value) : SynBlk (setSyn w B v0 v1 v2 v3 v4) C := by
  by_cases e : C = B
  · subst e
    obtain ⟨T, h⟩ := h.held v0 v1 v2 v3 v4
    exact ⟨_, _, _, _, _, _, h⟩
  · obtain ⟨a0, b0, c0, d0, e0, T, h⟩ := h
    exact ⟨a0, b0, c0, d0, e0, T, (heap_setSyn_ne e).trans h⟩
mutual
theorem Twin.small {P : Int → Int → Prop} : ∀ {x y : Syn}, Twin P x y → Small x → Small y
  | _, _, .mk hp h, .mk h1 h2 => .mk (by rw [← h.length]; exact h1) (TwinL.small h h2)
theorem TwinL.small {P : Int → Int → Prop} : ∀ {k l : List Syn}, TwinL P k l → (∀ z ∈ k, Small z) → ∀ z ∈ l, Small z
  | _, _, .nil, _ => fun z h => (List.not_mem_nil h).elim
  | _, _, .cons h hr, hs => fun z hz => by
    rcases List.mem_cons.1 hz with rfl | hz
    · exact Twin.small h (hs _ (List.mem_cons_self ..))
    · exact TwinL.small hr (fun z hz => hs z (List.mem_cons_of_mem _ hz)) z hz
end
/-- Two trees are stored into two new blocks. -/
theorem pair_world {w : World} {bw ba : Nat} (h : (bw = w.heap.size ∧ ba = w.heap.size + 1) ∨ (bw = w.heap.size + 1 ∧ ba = w.heap.size)) (z0 z1 z2 z3 z4 v0 v1 v2 v3 v4 u0 u1 u2 u3 u4 : Value) (T : TypeId) :
    Below w.heap.size w (setSyn (setSyn ((w.alloc (.cells #[z0, z1, z2, z3, z4] T)).alloc (.cells #[z0, z1, z2, z3, z4] T)).drew bw v0 v1 v2 v3 v4) ba u0 u1 u2 u3 u4) ∧
    (∃ T', (setSyn (setSyn ((w.alloc (.cells #[z0, z1, z2, z3, z4] T)).alloc (.cells #[z0, z1, z2, z3, z4] T)).drew bw v0 v1 v2 v3 v4) ba u0 u1 u2 u3 u4).heap[bw]? = some (.cells #[v0, v1, v2, v3, v4] T' (0, 0))) ∧
    ∃ T', (setSyn (setSyn ((w.alloc (.cells #[z0, z1, z2, z3, z4] T)).alloc (.cells #[z0, z1, z2, z3, z4] T)).drew bw v0 v1 v2 v3 v4) ba u0 u1 u2 u3 u4).heap[ba]? = some (.cells #[u0, u1, u2, u3, u4] T' (0, 0)) := by
  have y1 : SynBlk ((w.alloc (.cells #[z0, z1, z2, z3, z4] T)).alloc (.cells #[z0, z1, z2, z3, z4] T)).drew w.heap.size := ⟨_, _, _, _, _, _, (Lib.alloc_old _ _ _ (by rw [World.size_alloc]; omega)).trans (heap_alloc_new w _)⟩
  have y2 : SynBlk ((w.alloc (.cells #[z0, z1, z2, z3, z4] T)).alloc (.cells #[z0, z1, z2, z3, z4] T)).drew (w.heap.size + 1) := ⟨_, _, _, _, _, _, by have h := heap_alloc_new (w.alloc (.cells #[z0, z1, z2, z3, z4] T)) (.cells #[z0, z1, z2, z3, z4] T); rw [World.size_alloc] at h; exact h⟩
  have hB : Below w.heap.size w ((w.alloc (.cells #[z0, z1, z2, z3, z4] T)).alloc (.cells #[z0, z1, z2, z3, z4] T)).drew := (((Below.refl _ _).alloc (Nat.le_refl _) _).alloc (by simp) _).drew
  have yw : SynBlk ((w.alloc (.cells #[z0, z1, z2, z3, z4] T)).alloc (.cells #[z0, z1, z2, z3, z4] T)).drew bw := by rcases h with ⟨rfl, _⟩ | ⟨rfl, _⟩ <;> assumption
  have ya : SynBlk ((w.alloc (.cells #[z0, z1, z2, z3, z4] T)).alloc (.cells #[z0, z1, z2, z3, z4] T)).drew ba := by rcases h with ⟨_, rfl⟩ | ⟨_, rfl⟩ <;> assumption
  have hne : bw ≠ ba := by omega
  obtain ⟨T1, h1⟩ := yw.held v0 v1 v2 v3 v4
  obtain ⟨T2, h2⟩ := (ya.setSyn (B := bw) v0 v1 v2 v3 v4).held u0 u1 u2 u3 u4
  exact ⟨below_setSyn (below_setSyn hB (by omega) _ _ _ _ _) (by omega) _ _ _ _ _, ⟨T1, (heap_setSyn_ne hne).trans h1⟩, T2, h2⟩
theorem pair_cells {w : World} {A B : Nat} {a b c d e a' b' c' d' e' : Value} {T T' : TypeId} (h : w.heap[A]? = some (.cells #[a, b, c, d, e] T (0, 0))) (h' : w.heap[B]? = some (.cells #[a', b', c', d', e'] T' (0, 0))) :
    CellsIn w [(A, 0, a), (A, 4, e), (B, 0, a'), (B, 4, e')] := by
  obtain ⟨⟨q0, -, -, -, q4⟩, -⟩ := own5 h
  obtain ⟨⟨r0, -, -, -, r4⟩, -⟩ := own5 h'
  simp only [cellsIn_cons, cellsIn_nil, and_true]
  exact ⟨q0, q4, r0, r4⟩
theorem pair_facts {w : World} {bw ba : Nat} (h : (bw = w.heap.size ∧ ba = w.heap.size + 1) ∨ (bw = w.heap.size + 1 ∧ ba = w.heap.size)) (z0 z1 z2 z3 z4 v0 v1 v2 v3 v4 u0 u1 u2 u3 u4 : Value) (T : TypeId) :
    Below w.heap.size w (setSyn (setSyn ((w.alloc (.cells #[z0, z1, z2, z3, z4] T)).alloc (.cells #[z0, z1, z2, z3, z4] T)).drew bw v0 v1 v2 v3 v4) ba u0 u1 u2 u3 u4) ∧
    CellsIn (setSyn (setSyn ((w.alloc (.cells #[z0, z1, z2, z3, z4] T)).alloc (.cells #[z0, z1, z2, z3, z4] T)).drew bw v0 v1 v2 v3 v4) ba u0 u1 u2 u3 u4) [(bw, 0, v0), (bw, 4, v4), (ba, 0, u0), (ba, 4, u4)] := by
  obtain ⟨h1, ⟨T1, h2⟩, T2, h3⟩ := pair_world h z0 z1 z2 z3 z4 v0 v1 v2 v3 v4 u0 u1 u2 u3 u4 T
  exact ⟨h1, pair_cells h2 h3⟩
attribute [local go_sem ↓ 3000] run_storeAt_syn
attribute [local go_sem] SynBlk.setSyn cell_setSyn_ne
theorem walkEmbeds (c s f : ByteArray) (w : World) (hc : c.size ≤ 140737488351232) (hs : s.size ≤ 140737488351232) (hf : f.size ≤ 140737488351232) (he : PEnv w) (hm : MostAt w) :
    Calls Tryz.prog 9 #[.string c, .string s, .string f] w fun e w' => e = .returned (.bool true) ∧ Below w.heap.size w w' := by
  have E0 := Lib.hid he
  have B0 := Lib.hid (Below.refl w.heap.size w)
  clear he
  obtain ⟨lc, rfl⟩ : ∃ l : List UInt8, c = ⟨l.toArray⟩ := ⟨c.data.toList, by simp⟩
  obtain ⟨ls, rfl⟩ : ∃ l : List UInt8, s = ⟨l.toArray⟩ := ⟨s.data.toList, by simp⟩
  obtain ⟨lf, rfl⟩ : ∃ l : List UInt8, f = ⟨l.toArray⟩ := ⟨f.data.toList, by simp⟩
  rw [ba_size] at hc hs hf
  by_cases hlong : 900 < lc.length + ls.length + lf.length
  · have h1 : (900 : Int) < (lc.length : Int) + (ls.length : Int) + (lf.length : Int) := by omega
    go_enter Tryz.func9, Tryz.ntmps9
    go_wp2_with fail
    (with_reducible refine (awake08_any _ E0.out).mono ?_); rintro e w2 ⟨rfl, b2⟩
    go_wp2_with fail
    go_ret
    exact ⟨rfl, b2⟩
  have hle : lc.length + ls.length + lf.length ≤ 900 := by omega
  have g1 : decide ((900 : Int) < (lc.length : Int) + (ls.length : Int) + (lf.length : Int)) = false := by rw [decide_eq_false_iff_not]; omega
  have g1' : decide (900 < lc.length + ls.length + lf.length) = false := by rw [decide_eq_false_iff_not]; omega
  clear hlong
  cases hh : (lc ++ (ls ++ lf)).contains 35 with
  | true =>
    have hH := hash_any (lc ++ (ls ++ lf)) true hh (by simp; omega) w hm
    replace hH := Lib.hid hH
    clear hm hh
    go_enter Tryz.func9, Tryz.ntmps9
    go_wp2_with fail
    (with_reducible refine (hH.out).mono ?_); rintro e w1 ⟨rfl, rfl⟩
    go_wp2_with fail
    (with_reducible refine (awake08_any _ E0.out).mono ?_); rintro e w2 ⟨rfl, b2⟩
    go_wp2_with fail
    go_ret
    exact ⟨rfl, b2⟩
  | false =>
    have hH := hash_any (lc ++ (ls ++ lf)) false hh (by simp; omega) w hm
    replace hH := Lib.hid hH
    have nc : (35 : UInt8) ∉ lc := fun h => by simp [h] at hh
    have ns : (35 : UInt8) ∉ ls := fun h => by simp [h] at hh
    have nf : (35 : UInt8) ∉ lf := fun h => by simp [h] at hh
    have hC := Lib.hid (fun W h => fullCond_any lc W (by omega) h)
    have hS := Lib.hid (fun W h => fullScheme_any ls W (by omega) h)
    have hF := Lib.hid (fun W h => fullFormula_any lf W (by omega) h)
    have kC := parseO_nn lc (rdO .cond) fun T h => rdO_nn h .cond 0 0 h.pos
    have kS := parseO_nn ls (rdO .scheme) fun T h => rdO_nn h .scheme 0 0 h.pos
    have kF := parseO_nn lf (rdO .formula) fun T h => rdO_nn h .formula 0 0 h.pos
    clear hm hh
    by_cases hok : errNo (parseO lc (rdO .cond)) = 0 ∧ errNo (parseO ls (rdO .scheme)) = 0 ∧ errNo (parseO lf (rdO .formula)) = 0
    · obtain ⟨h1, h2, h3⟩ := hok
      obtain ⟨x, jx, ho1⟩ := ok_of_errNo h1
      obtain ⟨y, jy, ho2⟩ := ok_of_errNo h2
      obtain ⟨z, jz, ho3⟩ := ok_of_errNo h3
      obtain ⟨hl, t, j, ht, hE⟩ := emb_parse hle nc ns nf ho1 ho2 ho3
      have sx := rdO_sm (by omega) ho1
      have sy := rdO_sm (by omega) ho2
      have sz := rdO_sm (by omega) ho3
      have hP : ∀ (T : List UInt8) W, T = embText lc ls lf → PEnv W → Calls Tryz.prog 13 #[.string ⟨T.toArray⟩] W (PRes W (.ok t j)) := fun T W e h => by
        rw [e, ← ht]; exact fullParse_any _ W (by omega) h
      replace hP := Lib.hid hP
      rw [ho1] at hC
      rw [ho2] at hS
      rw [ho3] at hF
      clear ho1 ho2 ho3 ht hl h1 h2 h3 kC kS kF nc ns nf
      cases hE with
      | @mk p0 p1 p2 p3 p4 p5 p6 p7 p8 p9 x1 x2 y1 z1 q1 q2 q3 q4 =>
      cases q1 with
      | @mk kx tx nx ax ax1 xs xs1 r1 hx1 =>
      cases q2 with
      | @mk _ _ _ _ ax2 _ xs2 r2 hx2 =>
      cases q3 with
      | @mk ky ty ny ay ay1 ys ys1 r3 hy1 =>
      cases q4 with
      | @mk kz tz nz az az1 zs zs1 r4 hz1 =>
      cases sx with
      | mk sx1 sx2 =>
      cases sy with
      | mk sy1 sy2 =>
      cases sz with
      | mk sz1 sz2 =>
      replace hx1 := Lib.hid hx1
      replace hx2 := Lib.hid hx2
      replace hy1 := Lib.hid hy1
      replace hz1 := Lib.hid hz1
      replace sx2 := Lib.hid sx2
      replace sy2 := Lib.hid sy2
      replace sz2 := Lib.hid sz2
      go_enter Tryz.func9, Tryz.ntmps9
      go_wp2_with fail
      (with_reducible refine (hH.out).mono ?_); rintro e w0 ⟨rfl, rfl⟩
      go_wp2_with fail
      (with_reducible refine (hC.out _ E0.out).mono ?_); rintro e w1 ⟨b1, v, rfl, kv, rfl, hkx⟩
      simp only [Syn.kind, Syn.text, Syn.num, Syn.pos, Syn.kids] at hkx ⊢
      obtain ⟨px, mx, cx, rfl⟩ := hkx.shape
      have E1 := Lib.hid (E0.out.below b1)
      have B1 := Lib.hid (B0.out.trans (b1.mono B0.out.size))
      clear b1
      replace hkx := Lib.hid hkx
      go_upto_region 4 with (fail)
      have bA : Below w1.heap.size w1 (w1.alloc (.cells #[.int .i64 kx, .string ⟨List.toArray tx⟩, .int .i64 nx, .int .i64 ax, .slice px mx cx] 26)) := (Below.refl _ _).alloc (Nat.le_refl _) _
      have hn1 := heap_alloc_new w1 (.cells #[.int .i64 kx, .string ⟨List.toArray tx⟩, .int .i64 nx, .int .i64 ax, .slice px mx cx] 26)
      have E1m := Lib.hid (E1.out.below bA)
      have B1m := Lib.hid (B1.out.trans (bA.mono B1.out.size))
      replace hkx := Lib.hid (kids_below hkx.out bA)
      generalize World.alloc w1 _ = w1m at hn1 E1m B1m hkx ⊢
      generalize w1.heap.size = N1 at hn1 hkx ⊢
      replace hn1 := Lib.hid hn1
      clear bA
      go_wp2_with fail
      (with_reducible refine (hS.out _ E1m.out).mono ?_); rintro e w2 ⟨b2, v, rfl, kv, rfl, hky⟩
      replace hn1 := Lib.hid ((b2.block _ (Array.getElem?_eq_some_iff.1 hn1.out).1).trans hn1.out)
      replace hkx := Lib.hid (kids_below hkx.out b2)
      simp only [Syn.kind, Syn.text, Syn.num, Syn.pos, Syn.kids] at hky ⊢
      obtain ⟨py, my, cy, rfl⟩ := hky.shape
      have E2 := Lib.hid (E1m.out.below b2)
      have B2 := Lib.hid (B1m.out.trans (b2.mono B1m.out.size))
      clear b2
      replace hky := Lib.hid hky
      go_upto_region 5 with (fail)
      have bA : Below w2.heap.size w2 (w2.alloc (.cells #[.int .i64 ky, .string ⟨List.toArray ty⟩, .int .i64 ny, .int .i64 ay, .slice py my cy] 26)) := (Below.refl _ _).alloc (Nat.le_refl _) _
      have hn2 := heap_alloc_new w2 (.cells #[.int .i64 ky, .string ⟨List.toArray ty⟩, .int .i64 ny, .int .i64 ay, .slice py my cy] 26)
      have E2m := Lib.hid (E2.out.below bA)
      have B2m := Lib.hid (B2.out.trans (bA.mono B2.out.size))
      replace hn1 := Lib.hid ((bA.block _ (Array.getElem?_eq_some_iff.1 hn1.out).1).trans hn1.out)
      replace hkx := Lib.hid (kids_below hkx.out bA)
      replace hky := Lib.hid (kids_below hky.out bA)
      generalize World.alloc w2 _ = w2m at hn1 hn2 E2m B2m hkx hky ⊢
      generalize w2.heap.size = N2 at hn2 hky ⊢
      replace hn2 := Lib.hid hn2
      clear bA
      go_wp2_with fail
      (with_reducible refine (hF.out _ E2m.out).mono ?_); rintro e w3 ⟨b3, v, rfl, kv, rfl, hkz⟩
      replace hn1 := Lib.hid ((b3.block _ (Array.getElem?_eq_some_iff.1 hn1.out).1).trans hn1.out)
      replace hn2 := Lib.hid ((b3.block _ (Array.getElem?_eq_some_iff.1 hn2.out).1).trans hn2.out)
      replace hkx := Lib.hid (kids_below hkx.out b3)
      replace hky := Lib.hid (kids_below hky.out b3)
      simp only [Syn.kind, Syn.text, Syn.num, Syn.pos, Syn.kids] at hkz ⊢
      obtain ⟨pz, mz, cz, rfl⟩ := hkz.shape
      have E3 := Lib.hid (E2m.out.below b3)
      have B3 := Lib.hid (B2m.out.trans (b3.mono B2m.out.size))
      clear b3
      replace hkz := Lib.hid hkz
      go_upto_region 6 with (fail)
      have bA : Below w3.heap.size w3 (w3.alloc (.cells #[.int .i64 kz, .string ⟨List.toArray tz⟩, .int .i64 nz, .int .i64 az, .slice pz mz cz] 26)) := (Below.refl _ _).alloc (Nat.le_refl _) _
      have hn3 := heap_alloc_new w3 (.cells #[.int .i64 kz, .string ⟨List.toArray tz⟩, .int .i64 nz, .int .i64 az, .slice pz mz cz] 26)
      have E3m := Lib.hid (E3.out.below bA)
      have B3m := Lib.hid (B3.out.trans (bA.mono B3.out.size))
      replace hn1 := Lib.hid ((bA.block _ (Array.getElem?_eq_some_iff.1 hn1.out).1).trans hn1.out)
      replace hn2 := Lib.hid ((bA.block _ (Array.getElem?_eq_some_iff.1 hn2.out).1).trans hn2.out)
      replace hkx := Lib.hid (kids_below hkx.out bA)
      replace hky := Lib.hid (kids_below hky.out bA)
      replace hkz := Lib.hid (kids_below hkz.out bA)
      generalize World.alloc w3 _ = w3m at hn1 hn2 hn3 E3m B3m hkx hky hkz ⊢
      generalize w3.heap.size = N3 at hn3 hkz ⊢
      replace hn3 := Lib.hid hn3
      clear bA
      go_wp2_with fail
      (with_reducible refine (hP.out _ _ (by simp [embText, embA, embB, embC, embD, embE]) E3m.out).mono ?_); rintro e w4 ⟨b4, v, rfl, kv, rfl, hkp⟩
      replace hn1 := Lib.hid ((b4.block _ (Array.getElem?_eq_some_iff.1 hn1.out).1).trans hn1.out)
      replace hn2 := Lib.hid ((b4.block _ (Array.getElem?_eq_some_iff.1 hn2.out).1).trans hn2.out)
      replace hn3 := Lib.hid ((b4.block _ (Array.getElem?_eq_some_iff.1 hn3.out).1).trans hn3.out)
      replace hkx := Lib.hid (kids_below hkx.out b4)
      replace hky := Lib.hid (kids_below hky.out b4)
      replace hkz := Lib.hid (kids_below hkz.out b4)
      simp only [Syn.kind, Syn.text, Syn.num, Syn.pos, Syn.kids] at hkp ⊢
      have E4 := Lib.hid (E3m.out.below b4)
      have B4 := Lib.hid (B3m.out.trans (b4.mono B3m.out.size))
      clear b4
      obtain ⟨gP, cP, row, rfl, lP, hrow, hcP⟩ := kids_cells hkp
      clear hkp
      cases hrow with
      | cons e1 hrow =>
      cases e1 with
      | @mk _ _ _ _ _ v1 hk0 =>
      cases hrow with
      | cons e1 hrow =>
      cases e1 with
      | @mk _ _ _ _ _ v2 hk1 =>
      cases hrow with
      | cons e1 hrow =>
      cases e1 with
      | @mk _ _ _ _ _ v3 hk2 =>
      obtain ⟨g0, c0, row0, rfl, l0, hrow0, hc0⟩ := kids_cells hk0
      obtain ⟨gy, cy', rowy, rfl, ly, hrowy, hcy⟩ := kids_cells hk1
      obtain ⟨gz, cz', rowz, rfl, lz, hrowz, hcz⟩ := kids_cells hk2
      cases hrowy with
      | cons e1 _ =>
      cases e1 with
      | @mk _ _ _ _ _ vy hky1 =>
      cases hrowz with
      | cons e1 _ =>
      cases e1 with
      | @mk _ _ _ _ _ vz hkz1 =>
      cases hrow0 with
      | cons e1 hrow0 =>
      cases e1 with
      | @mk _ _ _ _ _ vn _ =>
      cases hrow0 with
      | cons e1 hrow0 =>
      cases e1 with
      | @mk _ _ _ _ _ vw hkw =>
      cases hrow0 with
      | cons e1 hrow0 =>
      cases e1 with
      | @mk _ _ _ _ _ va hka =>
      obtain ⟨gw, cw, roww, rfl, lw, hroww, hcw⟩ := kids_cells hkw
      obtain ⟨ga, ca, rowa, rfl, la, hrowa, hca⟩ := kids_cells hka
      cases hroww with
      | cons e1 _ =>
      cases e1 with
      | @mk _ _ _ _ _ vx1 hkx1 =>
      cases hrowa with
      | cons e1 _ =>
      cases e1 with
      | @mk _ _ _ _ _ vx2 hkx2 =>
      obtain ⟨py1, my1, cy1, rfl⟩ := hky1.shape
      obtain ⟨pz1, mz1, cz1, rfl⟩ := hkz1.shape
      obtain ⟨px1, mx1, cx1, rfl⟩ := hkx1.shape
      obtain ⟨px2, mx2, cx2, rfl⟩ := hkx2.shape
      have HM : CellsIn w4 [(gP, 4, .slice (some ⟨g0, 0, none⟩) 3 c0), (gP, 9, .slice (some ⟨gy, 0, none⟩) 1 cy'), (gP, 14, .slice (some ⟨gz, 0, none⟩) 1 cz'),
          (g0, 5, .int .i64 2), (g0, 6, .string ⟨List.toArray []⟩), (g0, 7, .int .i64 0), (g0, 8, .int .i64 p3), (g0, 9, .slice (some ⟨gw, 0, none⟩) 1 cw),
          (g0, 10, .int .i64 3), (g0, 11, .string ⟨List.toArray []⟩), (g0, 12, .int .i64 0), (g0, 13, .int .i64 p4), (g0, 14, .slice (some ⟨ga, 0, none⟩) 1 ca),
          (gy, 0, .int .i64 ky), (gy, 1, .string ⟨List.toArray ty⟩), (gy, 2, .int .i64 ny), (gy, 3, .int .i64 ay1), (gy, 4, .slice py1 my1 cy1),
          (gz, 0, .int .i64 kz), (gz, 1, .string ⟨List.toArray tz⟩), (gz, 2, .int .i64 nz), (gz, 3, .int .i64 az1), (gz, 4, .slice pz1 mz1 cz1),
          (gw, 0, .int .i64 kx), (gw, 1, .string ⟨List.toArray tx⟩), (gw, 2, .int .i64 nx), (gw, 3, .int .i64 ax1), (gw, 4, .slice px1 mx1 cx1),
          (ga, 0, .int .i64 kx), (ga, 1, .string ⟨List.toArray tx⟩), (ga, 2, .int .i64 nx), (ga, 3, .int .i64 ax2), (ga, 4, .slice px2 mx2 cx2)] := by
        simp only [cellsIn_cons, cellsIn_nil, and_true]
        exact ⟨hcP 4 _ rfl, hcP 9 _ rfl, hcP 14 _ rfl, hc0 5 _ rfl, hc0 6 _ rfl, hc0 7 _ rfl, hc0 8 _ rfl, hc0 9 _ rfl, hc0 10 _ rfl, hc0 11 _ rfl, hc0 12 _ rfl, hc0 13 _ rfl, hc0 14 _ rfl,
          hcy 0 _ rfl, hcy 1 _ rfl, hcy 2 _ rfl, hcy 3 _ rfl, hcy 4 _ rfl, hcz 0 _ rfl, hcz 1 _ rfl, hcz 2 _ rfl, hcz 3 _ rfl, hcz 4 _ rfl, hcw 0 _ rfl, hcw 1 _ rfl, hcw 2 _ rfl, hcw 3 _ rfl, hcw 4 _ rfl, hca 0 _ rfl, hca 1 _ rfl, hca 2 _ rfl, hca 3 _ rfl, hca 4 _ rfl⟩
      clear hcP hc0 hcy hcz hcw hca hrow hrow0 hk0 hk1 hk2 hkw hka
      replace hky1 := Lib.hid hky1
      replace hkz1 := Lib.hid hkz1
      replace hkx1 := Lib.hid hkx1
      replace hkx2 := Lib.hid hkx2
      replace HM := Lib.hid HM
      go_upto_region 9 with (fail)
      have bA : Below w4.heap.size w4 (w4.alloc (.cells #[.int .i64 0, .string ⟨List.toArray []⟩, .int .i64 3, .int .i64 p0, .slice (some ⟨gP, 0, none⟩) 4 cP] 26)) := (Below.refl _ _).alloc (Nat.le_refl _) _
      have hn4 := heap_alloc_new w4 (.cells #[.int .i64 0, .string ⟨List.toArray []⟩, .int .i64 3, .int .i64 p0, .slice (some ⟨gP, 0, none⟩) 4 cP] 26)
      have E4m := Lib.hid (E4.out.below bA)
      have B4m := Lib.hid (B4.out.trans (bA.mono B4.out.size))
      replace hn1 := Lib.hid ((bA.block _ (Array.getElem?_eq_some_iff.1 hn1.out).1).trans hn1.out)
      replace hn2 := Lib.hid ((bA.block _ (Array.getElem?_eq_some_iff.1 hn2.out).1).trans hn2.out)
      replace hn3 := Lib.hid ((bA.block _ (Array.getElem?_eq_some_iff.1 hn3.out).1).trans hn3.out)
      replace hkx := Lib.hid (kids_below hkx.out bA)
      replace hky := Lib.hid (kids_below hky.out bA)
      replace hkz := Lib.hid (kids_below hkz.out bA)
      replace hky1 := Lib.hid (kids_below hky1.out bA)
      replace hkz1 := Lib.hid (kids_below hkz1.out bA)
      replace hkx1 := Lib.hid (kids_below hkx1.out bA)
      replace hkx2 := Lib.hid (kids_below hkx2.out bA)
      replace HM := Lib.hid (HM.out.below bA)
      generalize World.alloc w4 _ = w4m at hn1 hn2 hn3 hn4 E4m B4m hkx hky hkz hky1 hkz1 hkx1 hkx2 HM ⊢
      generalize w4.heap.size = N4 at hn4 hkx1 hkx2 hky1 hkz1 ⊢
      clear bA
      have HN : CellsIn w4m [(N1, 0, .int .i64 kx), (N1, 1, .string ⟨List.toArray tx⟩), (N1, 2, .int .i64 nx), (N1, 3, .int .i64 ax), (N1, 4, .slice px mx cx),
          (N2, 0, .int .i64 ky), (N2, 1, .string ⟨List.toArray ty⟩), (N2, 2, .int .i64 ny), (N2, 3, .int .i64 ay), (N2, 4, .slice py my cy),
          (N3, 0, .int .i64 kz), (N3, 1, .string ⟨List.toArray tz⟩), (N3, 2, .int .i64 nz), (N3, 3, .int .i64 az), (N3, 4, .slice pz mz cz),
          (N4, 0, .int .i64 0), (N4, 1, .string ⟨List.toArray []⟩), (N4, 2, .int .i64 3), (N4, 3, .int .i64 p0), (N4, 4, .slice (some ⟨gP, 0, none⟩) 4 cP)] :=
        ((cells_of_blk hn1.out).app (cells_of_blk hn2.out)).app ((cells_of_blk hn3.out).app (cells_of_blk hn4))
      clear hn1 hn2 hn3 hn4
      have c1 := HM.out.at 0 rfl
      have c2 := HM.out.at 1 rfl
      have c3 := HM.out.at 2 rfl
      have c8 := HM.out.at 7 rfl
      have d18 := HN.at 17 rfl
      have d20 := HN.at 19 rfl
      go_upto_region 11 with (fail)
      replace HN := Lib.hid HN
      clear c1 c2 c3 c8 d18 d20
      go_cut [19, 20] from 125 to 138 (fun s t wx => ∃ bw ba : Nat, s = .pointer (some ⟨bw, 0, none⟩) ∧ t = .pointer (some ⟨ba, 0, none⟩) ∧ Below w4m.heap.size w4m wx ∧ CellsIn wx [(bw, 0, .int .i64 2), (bw, 4, .slice (some ⟨gw, 0, none⟩) 1 cw), (ba, 0, .int .i64 3), (ba, 4, .slice (some ⟨ga, 0, none⟩) 1 ca)])
      case first =>
        have bZ : ∀ (W : World) (A : Obj), Below W.heap.size W (W.alloc A) := fun W A => (Below.refl _ _).alloc (Nat.le_refl _) _
        have K0 : (fun W => (W.cell? ⟨N4, 4, none⟩ = some (.slice (some ⟨gP, 0, none⟩) 4 cP) ∧ W.cell? ⟨gP, 4, none⟩ = some (.slice (some ⟨g0, 0, none⟩) 3 c0)) ∧ (W.cell? ⟨g0, 5, none⟩ = some (.int .i64 2) ∧ W.cell? ⟨g0, 6, none⟩ = some (.string ⟨List.toArray []⟩) ∧ W.cell? ⟨g0, 7, none⟩ = some (.int .i64 0) ∧ W.cell? ⟨g0, 8, none⟩ = some (.int .i64 p3) ∧ W.cell? ⟨g0, 9, none⟩ = some (.slice (some ⟨gw, 0, none⟩) 1 cw)) ∧ (W.cell? ⟨g0, 10, none⟩ = some (.int .i64 3) ∧ W.cell? ⟨g0, 11, none⟩ = some (.string ⟨List.toArray []⟩) ∧ W.cell? ⟨g0, 12, none⟩ = some (.int .i64 0) ∧ W.cell? ⟨g0, 13, none⟩ = some (.int .i64 p4) ∧ W.cell? ⟨g0, 14, none⟩ = some (.slice (some ⟨ga, 0, none⟩) 1 ca))) w4m := by
          have c := HM.out
          have d := HN.out
          simp only [cellsIn_cons, cellsIn_nil, and_true] at c d
          obtain ⟨c1, -, -, c4, c5, c6, c7, c8, c9, c10, c11, c12, c13, -⟩ := c
          obtain ⟨-, -, -, -, -, -, -, -, -, -, -, -, -, -, -, -, -, -, -, d20⟩ := d
          exact ⟨⟨d20, c1⟩, ⟨c4, c5, c6, c7, c8⟩, c9, c10, c11, c12, c13⟩
        have K1 : ∀ A, (fun W => (W.cell? ⟨N4, 4, none⟩ = some (.slice (some ⟨gP, 0, none⟩) 4 cP) ∧ W.cell? ⟨gP, 4, none⟩ = some (.slice (some ⟨g0, 0, none⟩) 3 c0)) ∧ (W.cell? ⟨g0, 5, none⟩ = some (.int .i64 2) ∧ W.cell? ⟨g0, 6, none⟩ = some (.string ⟨List.toArray []⟩) ∧ W.cell? ⟨g0, 7, none⟩ = some (.int .i64 0) ∧ W.cell? ⟨g0, 8, none⟩ = some (.int .i64 p3) ∧ W.cell? ⟨g0, 9, none⟩ = some (.slice (some ⟨gw, 0, none⟩) 1 cw)) ∧ (W.cell? ⟨g0, 10, none⟩ = some (.int .i64 3) ∧ W.cell? ⟨g0, 11, none⟩ = some (.string ⟨List.toArray []⟩) ∧ W.cell? ⟨g0, 12, none⟩ = some (.int .i64 0) ∧ W.cell? ⟨g0, 13, none⟩ = some (.int .i64 p4) ∧ W.cell? ⟨g0, 14, none⟩ = some (.slice (some ⟨ga, 0, none⟩) 1 ca))) (w4m.alloc A) := fun A => by
          obtain ⟨⟨a1, a2⟩, ⟨a3, a4, a5, a6, a7⟩, a8, a9, a10, a11, a12⟩ := K0
          exact ⟨⟨cell_below a1 (bZ _ A), cell_below a2 (bZ _ A)⟩, ⟨cell_below a3 (bZ _ A), cell_below a4 (bZ _ A), cell_below a5 (bZ _ A), cell_below a6 (bZ _ A), cell_below a7 (bZ _ A)⟩, cell_below a8 (bZ _ A), cell_below a9 (bZ _ A), cell_below a10 (bZ _ A), cell_below a11 (bZ _ A), cell_below a12 (bZ _ A)⟩
        have K2 : ∀ A B, (fun W => (W.cell? ⟨N4, 4, none⟩ = some (.slice (some ⟨gP, 0, none⟩) 4 cP) ∧ W.cell? ⟨gP, 4, none⟩ = some (.slice (some ⟨g0, 0, none⟩) 3 c0)) ∧ (W.cell? ⟨g0, 5, none⟩ = some (.int .i64 2) ∧ W.cell? ⟨g0, 6, none⟩ = some (.string ⟨List.toArray []⟩) ∧ W.cell? ⟨g0, 7, none⟩ = some (.int .i64 0) ∧ W.cell? ⟨g0, 8, none⟩ = some (.int .i64 p3) ∧ W.cell? ⟨g0, 9, none⟩ = some (.slice (some ⟨gw, 0, none⟩) 1 cw)) ∧ (W.cell? ⟨g0, 10, none⟩ = some (.int .i64 3) ∧ W.cell? ⟨g0, 11, none⟩ = some (.string ⟨List.toArray []⟩) ∧ W.cell? ⟨g0, 12, none⟩ = some (.int .i64 0) ∧ W.cell? ⟨g0, 13, none⟩ = some (.int .i64 p4) ∧ W.cell? ⟨g0, 14, none⟩ = some (.slice (some ⟨ga, 0, none⟩) 1 ca))) ((w4m.alloc A).alloc B) := fun A B => by
          obtain ⟨⟨a1, a2⟩, ⟨a3, a4, a5, a6, a7⟩, a8, a9, a10, a11, a12⟩ := K1 A
          exact ⟨⟨cell_below a1 (bZ _ B), cell_below a2 (bZ _ B)⟩, ⟨cell_below a3 (bZ _ B), cell_below a4 (bZ _ B), cell_below a5 (bZ _ B), cell_below a6 (bZ _ B), cell_below a7 (bZ _ B)⟩, cell_below a8 (bZ _ B), cell_below a9 (bZ _ B), cell_below a10 (bZ _ B), cell_below a11 (bZ _ B), cell_below a12 (bZ _ B)⟩
        skip
        have y1 : SynBlk ((w4m.alloc (.cells #[.int .i64 0, .string ⟨#[]⟩, .int .i64 0, .int .i64 0, .slice none 0 0] 26)).alloc (.cells #[.int .i64 0, .string ⟨#[]⟩, .int .i64 0, .int .i64 0, .slice none 0 0] 26)).drew w4m.heap.size := ⟨_, _, _, _, _, _, (Lib.alloc_old _ _ _ (by rw [World.size_alloc]; omega)).trans (heap_alloc_new w4m (.cells #[.int .i64 0, .string ⟨#[]⟩, .int .i64 0, .int .i64 0, .slice none 0 0] 26))⟩
        have y2 : SynBlk ((w4m.alloc (.cells #[.int .i64 0, .string ⟨#[]⟩, .int .i64 0, .int .i64 0, .slice none 0 0] 26)).alloc (.cells #[.int .i64 0, .string ⟨#[]⟩, .int .i64 0, .int .i64 0, .slice none 0 0] 26)).drew (w4m.heap.size + 1) := ⟨_, _, _, _, _, _, by have h := heap_alloc_new (w4m.alloc (.cells #[.int .i64 0, .string ⟨#[]⟩, .int .i64 0, .int .i64 0, .slice none 0 0] 26)) (.cells #[.int .i64 0, .string ⟨#[]⟩, .int .i64 0, .int .i64 0, .slice none 0 0] 26); rw [World.size_alloc] at h; exact h⟩
        have lN4 : N4 < w4m.heap.size := World.block_lt_of_cell? _ _ K0.1.1
        have lgP : gP < w4m.heap.size := World.block_lt_of_cell? _ _ K0.1.2
        have lg0 : g0 < w4m.heap.size := World.block_lt_of_cell? _ _ K0.2.1.1
        have a1 := (K0).1.1
        have a2 := (K0).1.2
        have a3 := (K0).2.1.1
        have a4 := (K0).2.1.2.1
        have a5 := (K0).2.1.2.2.1
        have a6 := (K0).2.1.2.2.2.1
        have a7 := (K0).2.1.2.2.2.2
        have a8 := (K0).2.2.1
        have a9 := (K0).2.2.2.1
        have a10 := (K0).2.2.2.2.1
        have a11 := (K0).2.2.2.2.2.1
        have a12 := (K0).2.2.2.2.2.2
        have b1 := (K1 (.cells #[.int .i64 0, .string ⟨#[]⟩, .int .i64 0, .int .i64 0, .slice none 0 0] 26)).1.1
        have b2 := (K1 (.cells #[.int .i64 0, .string ⟨#[]⟩, .int .i64 0, .int .i64 0, .slice none 0 0] 26)).1.2
        have b3 := (K1 (.cells #[.int .i64 0, .string ⟨#[]⟩, .int .i64 0, .int .i64 0, .slice none 0 0] 26)).2.1.1
        have b4 := (K1 (.cells #[.int .i64 0, .string ⟨#[]⟩, .int .i64 0, .int .i64 0, .slice none 0 0] 26)).2.1.2.1
        have b5 := (K1 (.cells #[.int .i64 0, .string ⟨#[]⟩, .int .i64 0, .int .i64 0, .slice none 0 0] 26)).2.1.2.2.1
        have b6 := (K1 (.cells #[.int .i64 0, .string ⟨#[]⟩, .int .i64 0, .int .i64 0, .slice none 0 0] 26)).2.1.2.2.2.1
        have b7 := (K1 (.cells #[.int .i64 0, .string ⟨#[]⟩, .int .i64 0, .int .i64 0, .slice none 0 0] 26)).2.1.2.2.2.2
        have b8 := (K1 (.cells #[.int .i64 0, .string ⟨#[]⟩, .int .i64 0, .int .i64 0, .slice none 0 0] 26)).2.2.1
        have b9 := (K1 (.cells #[.int .i64 0, .string ⟨#[]⟩, .int .i64 0, .int .i64 0, .slice none 0 0] 26)).2.2.2.1
        have b10 := (K1 (.cells #[.int .i64 0, .string ⟨#[]⟩, .int .i64 0, .int .i64 0, .slice none 0 0] 26)).2.2.2.2.1
        have b11 := (K1 (.cells #[.int .i64 0, .string ⟨#[]⟩, .int .i64 0, .int .i64 0, .slice none 0 0] 26)).2.2.2.2.2.1
        have b12 := (K1 (.cells #[.int .i64 0, .string ⟨#[]⟩, .int .i64 0, .int .i64 0, .slice none 0 0] 26)).2.2.2.2.2.2
        have d1 := (K2 (.cells #[.int .i64 0, .string ⟨#[]⟩, .int .i64 0, .int .i64 0, .slice none 0 0] 26) (.cells #[.int .i64 0, .string ⟨#[]⟩, .int .i64 0, .int .i64 0, .slice none 0 0] 26)).1.1
        have d2 := (K2 (.cells #[.int .i64 0, .string ⟨#[]⟩, .int .i64 0, .int .i64 0, .slice none 0 0] 26) (.cells #[.int .i64 0, .string ⟨#[]⟩, .int .i64 0, .int .i64 0, .slice none 0 0] 26)).1.2
        have d3 := (K2 (.cells #[.int .i64 0, .string ⟨#[]⟩, .int .i64 0, .int .i64 0, .slice none 0 0] 26) (.cells #[.int .i64 0, .string ⟨#[]⟩, .int .i64 0, .int .i64 0, .slice none 0 0] 26)).2.1.1
        have d4 := (K2 (.cells #[.int .i64 0, .string ⟨#[]⟩, .int .i64 0, .int .i64 0, .slice none 0 0] 26) (.cells #[.int .i64 0, .string ⟨#[]⟩, .int .i64 0, .int .i64 0, .slice none 0 0] 26)).2.1.2.1
        have d5 := (K2 (.cells #[.int .i64 0, .string ⟨#[]⟩, .int .i64 0, .int .i64 0, .slice none 0 0] 26) (.cells #[.int .i64 0, .string ⟨#[]⟩, .int .i64 0, .int .i64 0, .slice none 0 0] 26)).2.1.2.2.1
        have d6 := (K2 (.cells #[.int .i64 0, .string ⟨#[]⟩, .int .i64 0, .int .i64 0, .slice none 0 0] 26) (.cells #[.int .i64 0, .string ⟨#[]⟩, .int .i64 0, .int .i64 0, .slice none 0 0] 26)).2.1.2.2.2.1
        have d7 := (K2 (.cells #[.int .i64 0, .string ⟨#[]⟩, .int .i64 0, .int .i64 0, .slice none 0 0] 26) (.cells #[.int .i64 0, .string ⟨#[]⟩, .int .i64 0, .int .i64 0, .slice none 0 0] 26)).2.1.2.2.2.2
        have d8 := (K2 (.cells #[.int .i64 0, .string ⟨#[]⟩, .int .i64 0, .int .i64 0, .slice none 0 0] 26) (.cells #[.int .i64 0, .string ⟨#[]⟩, .int .i64 0, .int .i64 0, .slice none 0 0] 26)).2.2.1
        have d9 := (K2 (.cells #[.int .i64 0, .string ⟨#[]⟩, .int .i64 0, .int .i64 0, .slice none 0 0] 26) (.cells #[.int .i64 0, .string ⟨#[]⟩, .int .i64 0, .int .i64 0, .slice none 0 0] 26)).2.2.2.1
        have d10 := (K2 (.cells #[.int .i64 0, .string ⟨#[]⟩, .int .i64 0, .int .i64 0, .slice none 0 0] 26) (.cells #[.int .i64 0, .string ⟨#[]⟩, .int .i64 0, .int .i64 0, .slice none 0 0] 26)).2.2.2.2.1
        have d11 := (K2 (.cells #[.int .i64 0, .string ⟨#[]⟩, .int .i64 0, .int .i64 0, .slice none 0 0] 26) (.cells #[.int .i64 0, .string ⟨#[]⟩, .int .i64 0, .int .i64 0, .slice none 0 0] 26)).2.2.2.2.2.1
        have d12 := (K2 (.cells #[.int .i64 0, .string ⟨#[]⟩, .int .i64 0, .int .i64 0, .slice none 0 0] 26) (.cells #[.int .i64 0, .string ⟨#[]⟩, .int .i64 0, .int .i64 0, .slice none 0 0] 26)).2.2.2.2.2.2
        have n1 : N4 ≠ w4m.heap.size ∧ N4 ≠ w4m.heap.size + 1 := by omega
        have n2 : gP ≠ w4m.heap.size ∧ gP ≠ w4m.heap.size + 1 := by omega
        have n3 : g0 ≠ w4m.heap.size ∧ g0 ≠ w4m.heap.size + 1 := by omega
        replace bZ := Lib.hid bZ
        clear K1 K2
        go_big_region
        · go_wp2_with fail
          go_meet
          case rel => exact ⟨_, _, rfl, rfl, pair_facts (.inl ⟨rfl, rfl⟩) _ _ _ _ _ _ _ _ _ _ _ _ _ _ _ _⟩
        · go_wp2_with fail
          go_meet
          case rel => exact ⟨_, _, rfl, rfl, pair_facts (.inr ⟨rfl, rfl⟩) _ _ _ _ _ _ _ _ _ _ _ _ _ _ _ _⟩
      case rest =>
        obtain ⟨bw, ba, rfl, rfl, hb5, HA5⟩ := hcut
        obtain ⟨w5, rfl⟩ : ∃ W : World, W = wc := ⟨_, rfl⟩
        have E5 := E4m.out.below hb5
        have B5 := Lib.hid (B4m.out.trans (hb5.mono B4m.out.size))
        have HM5 := HM.out.below hb5
        have HN5 := HN.out.below hb5
        have ux := kids_below hkx.out hb5
        have uy := kids_below hky.out hb5
        have uz := kids_below hkz.out hb5
        have ux1 := kids_below hkx1.out hb5
        have ux2 := kids_below hkx2.out hb5
        have uy1 := kids_below hky1.out hb5
        have uz1 := kids_below hkz1.out hb5
        clear HM HN hkx hky hkz hkx1 hkx2 hky1 hkz1 E4m B4m hb5
        have H5 := Lib.hid (fun (W : World) (hb : Below w5.heap.size w5 W) => And.intro (HA5.below hb) (And.intro (HM5.below hb) (HN5.below hb)))
        have hc1 := Lib.hid (fun (W : World) (hb : Below w5.heap.size w5 W) => (same08_any (SizeOf.sizeOf xs1 + 1) _ _ kx nx ax1 ax tx xs1 xs (.slice px1 mx1 cx1) (.slice px mx cx) W (by omega) hx1.out.symm (by rw [← hx1.out.length]; exact sx1) (kids_below ux1 hb) (kids_below ux hb) (hx1.out.small sx2.out)).mono (fun e W' k => And.intro k.1 (hb.trans (k.2.mono hb.size))))
        have hc2 := Lib.hid (fun (W : World) (hb : Below w5.heap.size w5 W) => (same08_any (SizeOf.sizeOf xs2 + 1) _ _ kx nx ax2 ax tx xs2 xs (.slice px2 mx2 cx2) (.slice px mx cx) W (by omega) hx2.out.symm (by rw [← hx2.out.length]; exact sx1) (kids_below ux2 hb) (kids_below ux hb) (hx2.out.small sx2.out)).mono (fun e W' k => And.intro k.1 (hb.trans (k.2.mono hb.size))))
        have hc3 := Lib.hid (fun (W : World) (hb : Below w5.heap.size w5 W) => (same08_any (SizeOf.sizeOf ys1 + 1) _ _ ky ny ay1 ay ty ys1 ys (.slice py1 my1 cy1) (.slice py my cy) W (by omega) hy1.out.symm (by rw [← hy1.out.length]; exact sy1) (kids_below uy1 hb) (kids_below uy hb) (hy1.out.small sy2.out)).mono (fun e W' k => And.intro k.1 (hb.trans (k.2.mono hb.size))))
        have hc4 := Lib.hid (fun (W : World) (hb : Below w5.heap.size w5 W) => (same08_any (SizeOf.sizeOf zs1 + 1) _ _ kz nz az1 az tz zs1 zs (.slice pz1 mz1 cz1) (.slice pz mz cz) W (by omega) hz1.out.symm (by rw [← hz1.out.length]; exact sz1) (kids_below uz1 hb) (kids_below uz hb) (hz1.out.small sz2.out)).mono (fun e W' k => And.intro k.1 (hb.trans (k.2.mono hb.size))))
        have hc5 := Lib.hid (fun (W : World) (hb : Below w5.heap.size w5 W) => (awake08_any W (E5.below hb)).mono (fun e W' k => And.intro k.1 (hb.trans (k.2.mono hb.size))))
        have e1 := fun W hb => (H5.out W hb).1.at 0 rfl
        have e2 := fun W hb => (H5.out W hb).1.at 1 rfl
        have e3 := fun W hb => (H5.out W hb).1.at 2 rfl
        have e4 := fun W hb => (H5.out W hb).1.at 3 rfl
        have f2 := fun W hb => (H5.out W hb).2.1.at 1 rfl
        have f3 := fun W hb => (H5.out W hb).2.1.at 2 rfl
        have f14 := fun W hb => (H5.out W hb).2.1.at 13 rfl
        have f15 := fun W hb => (H5.out W hb).2.1.at 14 rfl
        have f16 := fun W hb => (H5.out W hb).2.1.at 15 rfl
        have f17 := fun W hb => (H5.out W hb).2.1.at 16 rfl
        have f18 := fun W hb => (H5.out W hb).2.1.at 17 rfl
        have f19 := fun W hb => (H5.out W hb).2.1.at 18 rfl
        have f20 := fun W hb => (H5.out W hb).2.1.at 19 rfl
        have f21 := fun W hb => (H5.out W hb).2.1.at 20 rfl
        have f22 := fun W hb => (H5.out W hb).2.1.at 21 rfl
        have f23 := fun W hb => (H5.out W hb).2.1.at 22 rfl
        have f24 := fun W hb => (H5.out W hb).2.1.at 23 rfl
        have f25 := fun W hb => (H5.out W hb).2.1.at 24 rfl
        have f26 := fun W hb => (H5.out W hb).2.1.at 25 rfl
        have f27 := fun W hb => (H5.out W hb).2.1.at 26 rfl
        have f28 := fun W hb => (H5.out W hb).2.1.at 27 rfl
        have f29 := fun W hb => (H5.out W hb).2.1.at 28 rfl
        have f30 := fun W hb => (H5.out W hb).2.1.at 29 rfl
        have f31 := fun W hb => (H5.out W hb).2.1.at 30 rfl
        have f32 := fun W hb => (H5.out W hb).2.1.at 31 rfl
        have f33 := fun W hb => (H5.out W hb).2.1.at 32 rfl
        have m1 := fun W hb => (H5.out W hb).2.2.at 0 rfl
        have m2 := fun W hb => (H5.out W hb).2.2.at 1 rfl
        have m3 := fun W hb => (H5.out W hb).2.2.at 2 rfl
        have m4 := fun W hb => (H5.out W hb).2.2.at 3 rfl
        have m5 := fun W hb => (H5.out W hb).2.2.at 4 rfl
        have m6 := fun W hb => (H5.out W hb).2.2.at 5 rfl
        have m7 := fun W hb => (H5.out W hb).2.2.at 6 rfl
        have m8 := fun W hb => (H5.out W hb).2.2.at 7 rfl
        have m9 := fun W hb => (H5.out W hb).2.2.at 8 rfl
        have m10 := fun W hb => (H5.out W hb).2.2.at 9 rfl
        have m11 := fun W hb => (H5.out W hb).2.2.at 10 rfl
        have m12 := fun W hb => (H5.out W hb).2.2.at 11 rfl
        have m13 := fun W hb => (H5.out W hb).2.2.at 12 rfl
        have m14 := fun W hb => (H5.out W hb).2.2.at 13 rfl
        have m15 := fun W hb => (H5.out W hb).2.2.at 14 rfl
        have m20 := fun W hb => (H5.out W hb).2.2.at 19 rfl
        clear ux uy uz ux1 ux2 uy1 uz1 HA5 HM5 HN5 E5 hx1 hx2 hy1 hz1 sx2 sy2 sz2 H5
        go_upto_region 12 with (fail)
        go_region_held2 (fun W => Below w5.heap.size w5 W) (first | assumption | exact (Below.refl _ _).drew) (first | (go_at_call 24; (with_reducible refine (hc1.out _ (by assumption)).mono ?_); rintro e x1 ⟨rfl, n1⟩) | (go_at_call 24; (with_reducible refine (hc2.out _ (by assumption)).mono ?_); rintro e x1 ⟨rfl, n1⟩) | (go_at_call 24; (with_reducible refine (hc3.out _ (by assumption)).mono ?_); rintro e x1 ⟨rfl, n1⟩) | (go_at_call 24; (with_reducible refine (hc4.out _ (by assumption)).mono ?_); rintro e x1 ⟨rfl, n1⟩) | (go_at_call 12; (with_reducible refine (hc5.out _ (by assumption)).mono ?_); rintro e x1 ⟨rfl, n1⟩))
        all_goals
          clear e1 e2 e3 e4 f2 f3 f14 f15 f16 f17 f18 f19 f20 f21 f22 f23 f24 f25 f26 f27 f28 f29 f30 f31 f32 f33 m1 m2 m3 m4 m5 m6 m7 m8 m9 m10 m11 m12 m13 m14 m15 m20 hc1 hc2 hc3 hc4 hc5
          go_wp2_with fail
          go_ret
          exact ⟨rfl, B5.out.trans (n1.mono B5.out.size)⟩
    · have hC' := Lib.hid (fun W h => (hC.out W h).mono fun e w' h => h.any)
      have hS' := Lib.hid (fun W h => (hS.out W h).mono fun e w' h => h.any)
      have hF' := Lib.hid (fun W h => (hF.out W h).mono fun e w' h => h.any)
      clear hC hS hF kC kS kF nc ns nf
      generalize parseO lc (rdO .cond) = o1 at hok hC'
      generalize parseO ls (rdO .scheme) = o2 at hok hS'
      generalize parseO lf (rdO .formula) = o3 at hok hF'
      by_cases h1 : errNo o1 = 0
      · have t1 : (errNo o1 != 0) = false := by rw [bne_eq_false_iff_eq]; exact h1
        by_cases h2 : errNo o2 = 0
        · have t2 : (errNo o2 != 0) = false := by rw [bne_eq_false_iff_eq]; exact h2
          have t3 : (errNo o3 != 0) = true := by rw [bne_iff_ne]; exact fun h => hok ⟨h1, h2, h⟩
          clear hok h1 h2
          go_enter Tryz.func9, Tryz.ntmps9
          go_wp2_with fail
          (with_reducible refine (hH.out).mono ?_); rintro e w0 ⟨rfl, rfl⟩
          go_wp2_with fail
          (with_reducible refine (hC'.out _ E0.out).mono ?_); rintro e w1 ⟨b1, kd1, n1, a1, q1, tx1, p1, m1, c1, rfl⟩
          have E1 := Lib.hid (E0.out.below b1)
          have B1 := Lib.hid (B0.out.trans (b1.mono B0.out.size))
          clear b1
          go_upto_region 4 with (fail)
          have bA : Below w1.heap.size w1 (w1.alloc (.cells #[.int .i64 kd1, .string ⟨List.toArray tx1⟩, .int .i64 n1, .int .i64 a1, .slice p1 m1 c1] 26)) := (Below.refl _ _).alloc (Nat.le_refl _) _
          have E1m := Lib.hid (E1.out.below bA)
          have B1m := Lib.hid (B1.out.trans (bA.mono B1.out.size))
          clear bA
          generalize World.alloc w1 _ = w1m at E1m B1m ⊢
          generalize w1.heap.size = N1 at ⊢
          go_wp2_with fail
          (with_reducible refine (hS'.out _ E1m.out).mono ?_); rintro e w2 ⟨b2, kd2, n2, a2, q2, tx2, p2, m2, c2, rfl⟩
          have E2 := Lib.hid (E1m.out.below b2)
          have B2 := Lib.hid (B1m.out.trans (b2.mono B1m.out.size))
          clear b2
          go_upto_region 5 with (fail)
          have bA : Below w2.heap.size w2 (w2.alloc (.cells #[.int .i64 kd2, .string ⟨List.toArray tx2⟩, .int .i64 n2, .int .i64 a2, .slice p2 m2 c2] 26)) := (Below.refl _ _).alloc (Nat.le_refl _) _
          have E2m := Lib.hid (E2.out.below bA)
          have B2m := Lib.hid (B2.out.trans (bA.mono B2.out.size))
          clear bA
          generalize World.alloc w2 _ = w2m at E2m B2m ⊢
          generalize w2.heap.size = N2 at ⊢
          go_wp2_with fail
          (with_reducible refine (hF'.out _ E2m.out).mono ?_); rintro e w3 ⟨b3, kd3, n3, a3, q3, tx3, p3, m3, c3, rfl⟩
          have E3 := Lib.hid (E2m.out.below b3)
          have B3 := Lib.hid (B2m.out.trans (b3.mono B2m.out.size))
          clear b3
          go_upto_region 6 with (fail)
          have bA : Below w3.heap.size w3 (w3.alloc (.cells #[.int .i64 kd3, .string ⟨List.toArray tx3⟩, .int .i64 n3, .int .i64 a3, .slice p3 m3 c3] 26)) := (Below.refl _ _).alloc (Nat.le_refl _) _
          have E3m := Lib.hid (E3.out.below bA)
          have B3m := Lib.hid (B3.out.trans (bA.mono B3.out.size))
          clear bA
          generalize World.alloc w3 _ = w3m at E3m B3m ⊢
          generalize w3.heap.size = N3 at ⊢
          go_wp2_with fail
          (with_reducible refine (awake08_any _ E3m.out).mono ?_); rintro e w4 ⟨rfl, b4⟩
          go_wp2_with fail
          go_ret
          exact ⟨rfl, B3m.out.trans (b4.mono B3m.out.size)⟩
        · have t2 : (errNo o2 != 0) = true := by rw [bne_iff_ne]; exact h2
          clear hok h1 h2
          go_enter Tryz.func9, Tryz.ntmps9
          go_wp2_with fail
          (with_reducible refine (hH.out).mono ?_); rintro e w0 ⟨rfl, rfl⟩
          go_wp2_with fail
          (with_reducible refine (hC'.out _ E0.out).mono ?_); rintro e w1 ⟨b1, kd1, n1, a1, q1, tx1, p1, m1, c1, rfl⟩
          have E1 := Lib.hid (E0.out.below b1)
          have B1 := Lib.hid (B0.out.trans (b1.mono B0.out.size))
          clear b1
          go_upto_region 4 with (fail)
          have bA : Below w1.heap.size w1 (w1.alloc (.cells #[.int .i64 kd1, .string ⟨List.toArray tx1⟩, .int .i64 n1, .int .i64 a1, .slice p1 m1 c1] 26)) := (Below.refl _ _).alloc (Nat.le_refl _) _
          have E1m := Lib.hid (E1.out.below bA)
          have B1m := Lib.hid (B1.out.trans (bA.mono B1.out.size))
          clear bA
          generalize World.alloc w1 _ = w1m at E1m B1m ⊢
          generalize w1.heap.size = N1 at ⊢
          go_wp2_with fail
          (with_reducible refine (hS'.out _ E1m.out).mono ?_); rintro e w2 ⟨b2, kd2, n2, a2, q2, tx2, p2, m2, c2, rfl⟩
          have E2 := Lib.hid (E1m.out.below b2)
          have B2 := Lib.hid (B1m.out.trans (b2.mono B1m.out.size))
          clear b2
          go_upto_region 5 with (fail)
          have bA : Below w2.heap.size w2 (w2.alloc (.cells #[.int .i64 kd2, .string ⟨List.toArray tx2⟩, .int .i64 n2, .int .i64 a2, .slice p2 m2 c2] 26)) := (Below.refl _ _).alloc (Nat.le_refl _) _
          have E2m := Lib.hid (E2.out.below bA)
          have B2m := Lib.hid (B2.out.trans (bA.mono B2.out.size))
          clear bA
          generalize World.alloc w2 _ = w2m at E2m B2m ⊢
          generalize w2.heap.size = N2 at ⊢
          go_wp2_with fail
          (with_reducible refine (hF'.out _ E2m.out).mono ?_); rintro e w3 ⟨b3, kd3, n3, a3, q3, tx3, p3, m3, c3, rfl⟩
          have E3 := Lib.hid (E2m.out.below b3)
          have B3 := Lib.hid (B2m.out.trans (b3.mono B2m.out.size))
          clear b3
          go_upto_region 6 with (fail)
          have bA : Below w3.heap.size w3 (w3.alloc (.cells #[.int .i64 kd3, .string ⟨List.toArray tx3⟩, .int .i64 n3, .int .i64 a3, .slice p3 m3 c3] 26)) := (Below.refl _ _).alloc (Nat.le_refl _) _
          have E3m := Lib.hid (E3.out.below bA)
          have B3m := Lib.hid (B3.out.trans (bA.mono B3.out.size))
          clear bA
          generalize World.alloc w3 _ = w3m at E3m B3m ⊢
          generalize w3.heap.size = N3 at ⊢
          go_wp2_with fail
          (with_reducible refine (awake08_any _ E3m.out).mono ?_); rintro e w4 ⟨rfl, b4⟩
          go_wp2_with fail
          go_ret
          exact ⟨rfl, B3m.out.trans (b4.mono B3m.out.size)⟩
      · have t1 : (errNo o1 != 0) = true := by rw [bne_iff_ne]; exact h1
        clear hok h1
        go_enter Tryz.func9, Tryz.ntmps9
        go_wp2_with fail
        (with_reducible refine (hH.out).mono ?_); rintro e w0 ⟨rfl, rfl⟩
        go_wp2_with fail
        (with_reducible refine (hC'.out _ E0.out).mono ?_); rintro e w1 ⟨b1, kd1, n1, a1, q1, tx1, p1, m1, c1, rfl⟩
        have E1 := Lib.hid (E0.out.below b1)
        have B1 := Lib.hid (B0.out.trans (b1.mono B0.out.size))
        clear b1
        go_upto_region 4 with (fail)
        have bA : Below w1.heap.size w1 (w1.alloc (.cells #[.int .i64 kd1, .string ⟨List.toArray tx1⟩, .int .i64 n1, .int .i64 a1, .slice p1 m1 c1] 26)) := (Below.refl _ _).alloc (Nat.le_refl _) _
        have E1m := Lib.hid (E1.out.below bA)
        have B1m := Lib.hid (B1.out.trans (bA.mono B1.out.size))
        clear bA
        generalize World.alloc w1 _ = w1m at E1m B1m ⊢
        generalize w1.heap.size = N1 at ⊢
        go_wp2_with fail
        (with_reducible refine (hS'.out _ E1m.out).mono ?_); rintro e w2 ⟨b2, kd2, n2, a2, q2, tx2, p2, m2, c2, rfl⟩
        have E2 := Lib.hid (E1m.out.below b2)
        have B2 := Lib.hid (B1m.out.trans (b2.mono B1m.out.size))
        clear b2
        go_upto_region 5 with (fail)
        have bA : Below w2.heap.size w2 (w2.alloc (.cells #[.int .i64 kd2, .string ⟨List.toArray tx2⟩, .int .i64 n2, .int .i64 a2, .slice p2 m2 c2] 26)) := (Below.refl _ _).alloc (Nat.le_refl _) _
        have E2m := Lib.hid (E2.out.below bA)
        have B2m := Lib.hid (B2.out.trans (bA.mono B2.out.size))
        clear bA
        generalize World.alloc w2 _ = w2m at E2m B2m ⊢
        generalize w2.heap.size = N2 at ⊢
        go_wp2_with fail
        (with_reducible refine (hF'.out _ E2m.out).mono ?_); rintro e w3 ⟨b3, kd3, n3, a3, q3, tx3, p3, m3, c3, rfl⟩
        have E3 := Lib.hid (E2m.out.below b3)
        have B3 := Lib.hid (B2m.out.trans (b3.mono B2m.out.size))
        clear b3
        go_upto_region 6 with (fail)
        have bA : Below w3.heap.size w3 (w3.alloc (.cells #[.int .i64 kd3, .string ⟨List.toArray tx3⟩, .int .i64 n3, .int .i64 a3, .slice p3 m3 c3] 26)) := (Below.refl _ _).alloc (Nat.le_refl _) _
        have E3m := Lib.hid (E3.out.below bA)
        have B3m := Lib.hid (B3.out.trans (bA.mono B3.out.size))
        clear bA
        generalize World.alloc w3 _ = w3m at E3m B3m ⊢
        generalize w3.heap.size = N3 at ⊢
        go_wp2_with fail
        (with_reducible refine (awake08_any _ E3m.out).mono ?_); rintro e w4 ⟨rfl, b4⟩
        go_wp2_with fail
        go_ret
        exact ⟨rfl, B3m.out.trans (b4.mono B3m.out.size)⟩
end Go.Proofs.YtekccolabhfopaaGreatDoor
end
