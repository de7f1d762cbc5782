/- Joined: Tre. -/
import Derived.Test.YtekccolabhfopaaGreatDoorJ24
import Derived.Test.YtekccolabhfopaaGreatDoorJ13
import Derived.Test.YtekccolabhfopaaGreatDoorJ14
set_option linter.unusedVariables false
set_option linter.unusedSimpArgs false
section
/- Walks: Same and SameAt of the reference on trees in memory. -/
set_option maxHeartbeats 1000000
set_option maxRecDepth 100000
namespace Go.Proofs.YtekccolabhfopaaGreatDoor
open Go.RowKit
theorem RowAt.get {S : Nat → Prop} {w : World} : ∀ {l : List Syn} {cs : List Value}, RowAt S w l cs → ∀ i (h : i < l.length), ∃ kd tx n a kids v, l[i] = .mk kd tx n a kids ∧ KidsAt S w kids v ∧
    (cs[i * 5]? = some (.int .i64 kd) ∧ cs[i * 5 + 1]? = some (.string ⟨List.toArray tx⟩) ∧ cs[i * 5 + 2]? = some (.int .i64 n) ∧ cs[i * 5 + 3]? = some (.int .i64 a) ∧ cs[i * 5 + 4]? = some v)
  | _, _, .nil, i, h => absurd h (Nat.not_lt_zero _)
  | _, _, .cons (t := t) (cs := cs) (ds := ds) ht hr, 0, _ => by
    cases ht with
    | mk hk => exact ⟨_, _, _, _, _, _, rfl, hk, rfl, rfl, rfl, rfl, rfl⟩
  | _, _, .cons (t := t) (cs := cs) (ds := ds) ht hr, i + 1, h => by
    obtain ⟨kd, tx, n, a, kids, v, e, hk, c0, c1, c2, c3, c4⟩ := hr.get i (by simpa using h)
    cases ht with
    | mk hk' =>
      have e5 : ∀ (q0 q1 q2 q3 q4 : Value) j, (q0 :: q1 :: q2 :: q3 :: q4 :: ds)[(i + 1) * 5 + j]? = ds[i * 5 + j]? := fun q0 q1 q2 q3 q4 j => by
        rw [show (i + 1) * 5 + j = (i * 5 + j) + 5 from by omega]; rfl
      exact ⟨kd, tx, n, a, kids, v, e, hk, (e5 _ _ _ _ _ 0).trans c0, (e5 _ _ _ _ _ 1).trans c1, (e5 _ _ _ _ _ 2).trans c2, (e5 _ _ _ _ _ 3).trans c3, (e5 _ _ _ _ _ 4).trans c4⟩
/-- The kids' slice: its length, and each kid's cells. -/
theorem kids_form {S : Nat → Prop} {w : World} {l : List Syn} {v : Value} (h : KidsAt S w l v) : ∃ (p : Option Addr) (c : Nat), v = Value.slice p l.length c ∧ ∀ (i : Nat) (h : i < l.length), ∃ g kd tx n a kids u, p = some (⟨g, 0, none⟩ : Addr) ∧ l[i] = .mk kd tx n a kids ∧ KidsAt S w kids u ∧
    (w.cell? ⟨g, i * 5, none⟩ = some (.int .i64 kd) ∧ w.cell? ⟨g, i * 5 + 1, none⟩ = some (.string ⟨List.toArray tx⟩) ∧ w.cell? ⟨g, i * 5 + 2, none⟩ = some (.int .i64 n) ∧ w.cell? ⟨g, i * 5 + 3, none⟩ = some (.int .i64 a) ∧ w.cell? ⟨g, i * 5 + 4, none⟩ = some u) := by
  cases h with
  | none => exact ⟨none, 0, rfl, fun i h => absurd h (Nat.not_lt_zero _)⟩
  | @some _ b c cur fr hb hp hr =>
    refine ⟨_, c, rfl, fun i hi => ?_⟩
    obtain ⟨kd, tx, n, a, kids, u, e, hk, c0, c1, c2, c3, c4⟩ := hr.get i hi
    have hc : ∀ j x, (cur.toList.take (l.length * 5))[j]? = some x → w.cell? ⟨b, j, none⟩ = some x := fun j x hx => by
      rw [cell_of_row w b j cur _ _ hb]
      have hlt : j < l.length * 5 := by
        rcases Nat.lt_or_ge j (l.length * 5) with h | h
        · exact h
        · rw [List.getElem?_eq_none (by rw [List.length_take]; omega)] at hx; cases hx
      rw [List.getElem?_take_of_lt hlt] at hx
      simpa using hx
    exact ⟨b, kd, tx, n, a, kids, u, rfl, e, hk, hc _ _ c0, hc _ _ c1, hc _ _ c2, hc _ _ c3, hc _ _ c4⟩
theorem kids_below {S : Nat → Prop} {w w' : World} {l : List Syn} {v : Value} (h : KidsAt S w l v) (hb : Below w.heap.size w w') : KidsAt S w' l v := h.keep (Keep.of_below hb) fun _ h => h
theorem kids_get {S : Nat → Prop} {w : World} {l : List Syn} {p : Option Addr} {m c : Nat} (h : KidsAt S w l (.slice p m c)) (i : Nat) (hi : i < l.length) : ∃ g kd tx n a kids q u d, p = some (⟨g, 0, none⟩ : Addr) ∧ l[i] = .mk kd tx n a kids ∧ KidsAt S w kids (.slice q u d) ∧
    (w.cell? ⟨g, i * 5, none⟩ = some (.int .i64 kd) ∧ w.cell? ⟨g, i * 5 + 1, none⟩ = some (.string ⟨List.toArray tx⟩) ∧ w.cell? ⟨g, i * 5 + 2, none⟩ = some (.int .i64 n) ∧ w.cell? ⟨g, i * 5 + 3, none⟩ = some (.int .i64 a) ∧ w.cell? ⟨g, i * 5 + 4, none⟩ = some (.slice q u d)) := by
  obtain ⟨p', c', e, hf⟩ := kids_form h
  injection e with e1 e2 e3
  subst e1
  obtain ⟨g, kd, tx, n, a, kids, u, h1, h2, h3, h4⟩ := hf i hi
  obtain ⟨q, k, d, rfl⟩ := h3.shape
  exact ⟨g, kd, tx, n, a, kids, q, k, d, h1, h2, h3, h4⟩
theorem same08_any (m : Nat) : ∀ (S S' : Nat → Prop) (k n a b : Int) (tx : List UInt8) (xs ys : List Syn) (v v' : Value) (w : World), SizeOf.sizeOf xs < m → TwinL (fun _ _ => True) xs ys → xs.length ≤ 1000000 → KidsAt S w xs v → KidsAt S' w ys v' → (∀ z ∈ xs, Small z) →
    Calls Tryz.prog 24 #[.agg #[.int .i64 k, .string ⟨List.toArray tx⟩, .int .i64 n, .int .i64 a, v], .agg #[.int .i64 k, .string ⟨List.toArray tx⟩, .int .i64 n, .int .i64 b, v']] w fun e w' => e = .returned (.bool true) ∧ Below w.heap.size w w' := by
  induction m with
  | zero => intro S S' k n a b tx xs ys v v' w h; omega
  | succ m ih =>
    intro S S' k n a b tx xs ys v v' w hm  hal hsz hv hv' hsm
    skip
    obtain ⟨p, c, rfl, hf⟩ := kids_form hv
    obtain ⟨p', c', rfl, hf'⟩ := kids_form hv'
    have hlen := hal.length
    rw [← hlen] at hv' ⊢
    have hB : Below w.heap.size w ((w.alloc (.cells #[.int .i64 k, .string ⟨List.toArray tx⟩, .int .i64 n, .int .i64 a, .slice p xs.length c] 26)).alloc (.cells #[.int .i64 k, .string ⟨List.toArray tx⟩, .int .i64 n, .int .i64 b, .slice p' xs.length c'] 26)) := ((Below.refl _ _).alloc (Nat.le_refl _) _).alloc (by rw [World.size_alloc]; omega) _
    have hb1 := heap_alloc_new (w.alloc (.cells #[.int .i64 k, .string ⟨List.toArray tx⟩, .int .i64 n, .int .i64 a, .slice p xs.length c] 26)) (.cells #[.int .i64 k, .string ⟨List.toArray tx⟩, .int .i64 n, .int .i64 b, .slice p' xs.length c'] 26)
    have hb0 := (Lib.alloc_old (w.alloc (.cells #[.int .i64 k, .string ⟨List.toArray tx⟩, .int .i64 n, .int .i64 a, .slice p xs.length c] 26)) (.cells #[.int .i64 k, .string ⟨List.toArray tx⟩, .int .i64 n, .int .i64 b, .slice p' xs.length c'] 26) w.heap.size (by rw [World.size_alloc]; omega)).trans (heap_alloc_new _ _)
    rw [World.size_alloc] at hb1
    have hv2 := kids_below hv hB
    have hv2' := kids_below hv' hB
    clear hf hf' hv hv'
    replace hal := Lib.hid hal
    replace hlen := Lib.hid hlen
    replace hsm := Lib.hid hsm
    replace ih := Lib.hid ih
    go_enter Tryz.func24, Tryz.ntmps24
    go_wp2_with fail
    generalize World.alloc (World.alloc w _) _ = w2 at hB hb1 hb0 hv2 hv2' ⊢
    have hs1 : w.heap.size < w2.heap.size := (Array.getElem?_eq_some_iff.1 hb0).1
    have hs2 : w.heap.size + 1 < w2.heap.size := (Array.getElem?_eq_some_iff.1 hb1).1
    replace hB := Lib.hid hB
    replace hb0 := Lib.hid hb0
    replace hb1 := Lib.hid hb1
    replace hv2 := Lib.hid hv2
    replace hv2' := Lib.hid hv2'
    go_loopw [5] (fun i wr => (∃ j : Nat, j ≤ xs.length ∧ i = .int .i64 j) ∧ Hid (Below w2.heap.size w2 wr)) (fun i _ => xs.length - (intOf i).toNat)
    case atStart => exact ⟨⟨0, by omega, rfl⟩, Lib.hid (Below.refl w2.heap.size w2)⟩
    case round =>
      obtain ⟨⟨j, hj, rfl⟩, hbw⟩ := hrel
      obtain ⟨⟨x0, x1, x2, x3, x4⟩, -⟩ := own5 ((hbw.out.block _ hs1).trans hb0.out)
      obtain ⟨⟨y0, y1, y2, y3, y4⟩, -⟩ := own5 ((hbw.out.block _ hs2).trans hb1.out)
      by_cases hlt : j < xs.length
      · have hbd : Below w2.heap.size w2 wr.drew := below_drawn hbw.out 1
        obtain ⟨⟨-, -, -, -, x5⟩, -⟩ := own5 ((hbd.block _ hs1).trans hb0.out)
        obtain ⟨⟨-, -, -, -, y5⟩, -⟩ := own5 ((hbd.block _ hs2).trans hb1.out)
        have hvd := kids_below hv2.out hbd
        have hvd' := kids_below hv2'.out hbd
        obtain ⟨g, kd, tx1, n1, a1, kids, q, u, d, rfl, e1, hk1, c0, c1, c2, c3, c4⟩ := kids_get hvd j hlt
        obtain ⟨g', kd', tx1', n1', b1, kids', q', u', d', rfl, e2, hk2, d0, d1, d2, d3, d4⟩ := kids_get hvd' j (by have := hlen.out; omega)
        have hag := hal.out.get j hlt (by have := hlen.out; omega)
        rw [e1, e2] at hag
        have hsz1 : SizeOf.sizeOf kids < m := by
          have h1 := List.sizeOf_lt_of_mem (List.getElem_mem hlt)
          rw [e1] at h1
          simp only [Syn.mk.sizeOf_spec] at h1
          omega
        have hsj := hsm.out _ (List.getElem_mem hlt)
        rw [e1] at hsj
        cases hag with
        | mk hp1 hl1 =>
        clear hp1
        cases hsj with
        | mk hq1 hq2 =>
        have hcall := ih.out S S' kd n1 a1 b1 tx1 kids kids' (.slice q u d) (.slice q' u' d') wr.drew hsz1  hl1 hq1 hk1 hk2 hq2
        replace hbd := Lib.hid hbd
        clear hvd hvd' hk1 hk2 hl1 hq2 e1 e2
        replace hcall := Lib.hid hcall
        go_wp2_with fail
        go_region_with (go_at_call 24; (with_reducible refine (hcall.out).mono ?_); rintro e w3 ⟨rfl, b3⟩; replace b3 := Lib.hid b3)
        all_goals
          go_wp2_with fail
          go_roundw
          case rel => exact ⟨⟨j + 1, by omega, by go_num⟩, hbd.out.trans (b3.out.mono hbd.out.size)⟩
          case measure => simp [intOf]; omega
      · go_wp2_with fail
        exact bodyPost_ret (v := .bool true) (by simp [results, Tryz.results24, go_sem]) rfl ⟨rfl, hB.out.trans (hbw.out.mono hB.out.size)⟩
theorem sameAt08_any (m : Nat) : ∀ (S S' : Nat → Prop) (k n a b : Int) (tx : List UInt8) (xs ys : List Syn) (v v' : Value) (w : World), SizeOf.sizeOf xs < m → a = b →TwinL Eq xs ys → xs.length ≤ 1000000 → KidsAt S w xs v → KidsAt S' w ys v' → (∀ z ∈ xs, Small z) →
    Calls Tryz.prog 15 #[.agg #[.int .i64 k, .string ⟨List.toArray tx⟩, .int .i64 n, .int .i64 a, v], .agg #[.int .i64 k, .string ⟨List.toArray tx⟩, .int .i64 n, .int .i64 b, v']] w fun e w' => e = .returned (.bool true) ∧ Below w.heap.size w w' := by
  induction m with
  | zero => intro S S' k n a b tx xs ys v v' w h; omega
  | succ m ih =>
    intro S S' k n a b tx xs ys v v' w hm hab hal hsz hv hv' hsm
    subst hab
    obtain ⟨p, c, rfl, hf⟩ := kids_form hv
    obtain ⟨p', c', rfl, hf'⟩ := kids_form hv'
    have hlen := hal.length
    rw [← hlen] at hv' ⊢
    have hB : Below w.heap.size w ((w.alloc (.cells #[.int .i64 k, .string ⟨List.toArray tx⟩, .int .i64 n, .int .i64 a, .slice p xs.length c] 26)).alloc (.cells #[.int .i64 k, .string ⟨List.toArray tx⟩, .int .i64 n, .int .i64 a, .slice p' xs.length c'] 26)) := ((Below.refl _ _).alloc (Nat.le_refl _) _).alloc (by rw [World.size_alloc]; omega) _
    have hb1 := heap_alloc_new (w.alloc (.cells #[.int .i64 k, .string ⟨List.toArray tx⟩, .int .i64 n, .int .i64 a, .slice p xs.length c] 26)) (.cells #[.int .i64 k, .string ⟨List.toArray tx⟩, .int .i64 n, .int .i64 a, .slice p' xs.length c'] 26)
    have hb0 := (Lib.alloc_old (w.alloc (.cells #[.int .i64 k, .string ⟨List.toArray tx⟩, .int .i64 n, .int .i64 a, .slice p xs.length c] 26)) (.cells #[.int .i64 k, .string ⟨List.toArray tx⟩, .int .i64 n, .int .i64 a, .slice p' xs.length c'] 26) w.heap.size (by rw [World.size_alloc]; omega)).trans (heap_alloc_new _ _)
    rw [World.size_alloc] at hb1
    have hv2 := kids_below hv hB
    have hv2' := kids_below hv' hB
    clear hf hf' hv hv'
    replace hal := Lib.hid hal
    replace hlen := Lib.hid hlen
    replace hsm := Lib.hid hsm
    replace ih := Lib.hid ih
    go_enter Tryz.func15, Tryz.ntmps15
    go_wp2_with fail
    generalize World.alloc (World.alloc w _) _ = w2 at hB hb1 hb0 hv2 hv2' ⊢
    have hs1 : w.heap.size < w2.heap.size := (Array.getElem?_eq_some_iff.1 hb0).1
    have hs2 : w.heap.size + 1 < w2.heap.size := (Array.getElem?_eq_some_iff.1 hb1).1
    replace hB := Lib.hid hB
    replace hb0 := Lib.hid hb0
    replace hb1 := Lib.hid hb1
    replace hv2 := Lib.hid hv2
    replace hv2' := Lib.hid hv2'
    go_loopw [5] (fun i wr => (∃ j : Nat, j ≤ xs.length ∧ i = .int .i64 j) ∧ Hid (Below w2.heap.size w2 wr)) (fun i _ => xs.length - (intOf i).toNat)
    case atStart => exact ⟨⟨0, by omega, rfl⟩, Lib.hid (Below.refl w2.heap.size w2)⟩
    case round =>
      obtain ⟨⟨j, hj, rfl⟩, hbw⟩ := hrel
      obtain ⟨⟨x0, x1, x2, x3, x4⟩, -⟩ := own5 ((hbw.out.block _ hs1).trans hb0.out)
      obtain ⟨⟨y0, y1, y2, y3, y4⟩, -⟩ := own5 ((hbw.out.block _ hs2).trans hb1.out)
      by_cases hlt : j < xs.length
      · have hbd : Below w2.heap.size w2 wr.drew := below_drawn hbw.out 1
        obtain ⟨⟨-, -, -, -, x5⟩, -⟩ := own5 ((hbd.block _ hs1).trans hb0.out)
        obtain ⟨⟨-, -, -, -, y5⟩, -⟩ := own5 ((hbd.block _ hs2).trans hb1.out)
        have hvd := kids_below hv2.out hbd
        have hvd' := kids_below hv2'.out hbd
        obtain ⟨g, kd, tx1, n1, a1, kids, q, u, d, rfl, e1, hk1, c0, c1, c2, c3, c4⟩ := kids_get hvd j hlt
        obtain ⟨g', kd', tx1', n1', b1, kids', q', u', d', rfl, e2, hk2, d0, d1, d2, d3, d4⟩ := kids_get hvd' j (by have := hlen.out; omega)
        have hag := hal.out.get j hlt (by have := hlen.out; omega)
        rw [e1, e2] at hag
        have hsz1 : SizeOf.sizeOf kids < m := by
          have h1 := List.sizeOf_lt_of_mem (List.getElem_mem hlt)
          rw [e1] at h1
          simp only [Syn.mk.sizeOf_spec] at h1
          omega
        have hsj := hsm.out _ (List.getElem_mem hlt)
        rw [e1] at hsj
        cases hag with
        | mk hp1 hl1 =>
        subst hp1
        cases hsj with
        | mk hq1 hq2 =>
        have hcall := ih.out S S' kd n1 a1 a1 tx1 kids kids' (.slice q u d) (.slice q' u' d') wr.drew hsz1 rfl hl1 hq1 hk1 hk2 hq2
        replace hbd := Lib.hid hbd
        clear hvd hvd' hk1 hk2 hl1 hq2 e1 e2
        replace hcall := Lib.hid hcall
        go_wp2_with fail
        go_region_with (go_at_call 15; (with_reducible refine (hcall.out).mono ?_); rintro e w3 ⟨rfl, b3⟩; replace b3 := Lib.hid b3)
        all_goals
          go_wp2_with fail
          go_roundw
          case rel => exact ⟨⟨j + 1, by omega, by go_num⟩, hbd.out.trans (b3.out.mono hbd.out.size)⟩
          case measure => simp [intOf]; omega
      · go_wp2_with fail
        exact bodyPost_ret (v := .bool true) (by simp [results, Tryz.results15, go_sem]) rfl ⟨rfl, hB.out.trans (hbw.out.mono hB.out.size)⟩
end Go.Proofs.YtekccolabhfopaaGreatDoor
end
