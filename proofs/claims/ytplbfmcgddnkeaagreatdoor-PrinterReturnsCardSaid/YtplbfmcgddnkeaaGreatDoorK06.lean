/- Joined: PnB, Sm, PnC. -/
import Derived.Maps.RangeRun
import Derived.Test.YtplbfmcgddnkeaaGreatDoorK05
import Derived.Test.YtplbfmcgddnkeaaGreatDoorK04
set_option linter.unusedVariables false
set_option linter.unusedSimpArgs false
section
set_option maxHeartbeats 1000000
set_option maxRecDepth 100000
namespace Go.Proofs.YtplbfmcgddnkeaaGreatDoor
open Go.RowKit
abbrev nodeV (t : Syn) (q : Option Addr) (d : Nat) : Value := (Value.agg #[.int .i64 t.kind, .string ⟨List.toArray t.text⟩, .int .i64 t.num, .int .i64 t.pos, .slice q t.kids.length d])
def IdxPost (w : World) (pr : Syn → Bool) (l : List Syn) (e : Ending) (w' : World) : Prop := ∃ z : Int, e = .returned (.int .i64 z) ∧ decide (0 ≤ z) = l.any pr ∧ Below w.heap.size w w'
theorem idx_any (l : List Syn) (p : Option Addr) (c X : Nat) (pr : Syn → Bool) (w : World) (hk : KidR w l (.slice p l.length c)) (hl : l.length ≤ 100000)
    (hcall : ∀ i (hi : i < l.length) q d W, Below w.heap.size w W → KidR W l[i].kids (.slice q l[i].kids.length d) → Calls Tryz.prog 95 #[nodeV l[i] q d, .pointer (some ⟨X, 0, none⟩)] W fun e W' => e = .returned (.bool (pr l[i])) ∧ Below W.heap.size W W') :
    Calls Tryz.prog 141 #[.slice p l.length c, .func (.func 95) #[] #[.pointer (some ⟨X, 0, none⟩)]] w (IdxPost w pr l) := by
  replace hcall := Lib.hid hcall
  go_enter Tryz.func141, Tryz.ntmps141
  go_wp2_with fail
  go_loopw [5, 8] (fun s5 s8 wr => (∃ j : Nat, j ≤ l.length ∧ s8 = .int .i64 j ∧ Hid (∀ t (ht : t < l.length), t < j → pr l[t] = false)) ∧ Hid (Below w.heap.size w wr)) (fun _ s8 _ => l.length - (intOf s8).toNat)
  case atStart => exact ⟨⟨0, by omega, rfl, Lib.hid (fun t ht h => by omega)⟩, Lib.hid (Below.refl w.heap.size w)⟩
  case round =>
    obtain ⟨⟨j, hj, rfl, hno⟩, hb⟩ := hrel
    by_cases hlt : j < l.length
    · obtain ⟨b, o, q, d, rfl, hc, hkk⟩ := (hk.low hb.out).get j hlt
      obtain ⟨c0, c1, c2, c3, c4⟩ := hc
      have hC := hcall.out j hlt q d wr hb.out hkk
      cases hp : pr l[j]
      · rw [hp] at hC
        replace hC := Lib.hid hC
        replace hp := Lib.hid hp
        replace hkk := Lib.hid hkk
        go_wp2_with (go_at_call 95; (with_reducible refine (hC.out).mono ?_); rintro e w2 ⟨rfl, b2⟩)
        go_roundw
        case rel => exact ⟨⟨j + 1, by omega, by go_num, Lib.hid (fun t ht h => by
          by_cases e : t = j
          · subst e; exact hp.out
          · exact hno.out t ht (by omega))⟩, hb.out.trans (b2.mono hb.out.size)⟩
        case measure => simp [intOf]; omega
      · rw [hp] at hC
        replace hC := Lib.hid hC
        replace hp := Lib.hid hp
        replace hkk := Lib.hid hkk
        go_wp2_with (go_at_call 95; (with_reducible refine (hC.out).mono ?_); rintro e w2 ⟨rfl, b2⟩)
        refine bodyPost_ret (v := .int .i64 j) (by simp [results, Tryz.results141, go_sem]) rfl ⟨j, rfl, ?_, hb.out.trans (b2.mono hb.out.size)⟩
        have : l.any pr = true := List.any_eq_true.2 ⟨l[j], List.getElem_mem hlt, hp.out⟩
        rw [this]; simp
    · go_wp2_with fail
      refine bodyPost_ret (v := .int .i64 (-1)) (by simp [results, Tryz.results141, go_sem]) rfl ⟨-1, rfl, ?_, hb.out⟩
      have : l.any pr = false := List.any_eq_false.2 fun x hx => by
        obtain ⟨t, ht, rfl⟩ := List.mem_iff_getElem.1 hx
        rw [hno.out t ht (by omega)]; decide
      rw [this]; decide
theorem cont_any (l : List Syn) (p : Option Addr) (c X : Nat) (pr : Syn → Bool) (w : World) (hk : KidR w l (.slice p l.length c)) (hl : l.length ≤ 100000)
    (hcall : ∀ i (hi : i < l.length) q d W, Below w.heap.size w W → KidR W l[i].kids (.slice q l[i].kids.length d) → Calls Tryz.prog 95 #[nodeV l[i] q d, .pointer (some ⟨X, 0, none⟩)] W fun e W' => e = .returned (.bool (pr l[i])) ∧ Below W.heap.size W W') :
    Calls Tryz.prog 94 #[.slice p l.length c, .func (.func 95) #[] #[.pointer (some ⟨X, 0, none⟩)]] w fun e w' => e = .returned (.bool (l.any pr)) ∧ Below w.heap.size w w' := by
  have hI := Lib.hid (idx_any l p c X pr w hk hl hcall)
  clear hk hcall
  go_enter Tryz.func94, Tryz.ntmps94
  go_wp2_with (go_at_call 141; (with_reducible refine (hI.out).mono ?_); rintro e w2 ⟨z, rfl, hz, b2⟩; replace hz := Lib.hid hz)
  all_goals
    go_ret
    exact ⟨ret_b hz.out, b2⟩
theorem evone_num (k : Int) (tx : List UInt8) (n a : Int) (p : Option Addr) (m c X : Nat) (v : Bool) (w : World) (hX : w.cell? ⟨X, 0, none⟩ = some (.func (.func 104) #[] #[]))
    (hcall : ∀ W, Below w.heap.size w W → Calls Tryz.prog 104 #[(Value.agg #[.int .i64 k, .string ⟨List.toArray tx⟩, .int .i64 n, .int .i64 a, .slice p m c])] W fun e W' => e = .returned (.bool v) ∧ Below W.heap.size W W') :
    Calls Tryz.prog 95 #[(Value.agg #[.int .i64 k, .string ⟨List.toArray tx⟩, .int .i64 n, .int .i64 a, .slice p m c]), .pointer (some ⟨X, 0, none⟩)] w fun e w' => e = .returned (.bool (!v)) ∧ Below w.heap.size w w' := by
  replace hcall := Lib.hid hcall
  have hX' := fun W (h : Below w.heap.size w W) => cell_low hX h
  clear hX
  have hB := boxed_below w k tx n a p m c
  have hC := boxed_new w k tx n a p m c
  unfold boxed at hB hC
  go_enter Tryz.func95, Tryz.ntmps95
  go_upto_region 1 with (fail)
  generalize World.alloc w _ = w1 at hB hC ⊢
  obtain ⟨c0, c1, c2, c3, c4⟩ := five hC
  replace hB := Lib.hid hB
  replace hC := Lib.hid hC
  have q0 := hX' _ hB.out
  clear hX'
  go_wp2_with (go_at_call 104; (with_reducible refine (hcall.out _ hB.out).mono ?_); rintro e w2 ⟨rfl, b2⟩)
  all_goals
    go_ret
    exact ⟨rfl, hB.out.trans (b2.mono hB.out.size)⟩
theorem every_num (l : List Syn) (p : Option Addr) (c : Nat) (pr : Syn → Bool) (w : World) (hk : KidR w l (.slice p l.length c)) (hl : l.length ≤ 100000)
    (hcall : ∀ i (hi : i < l.length) q d W, Below w.heap.size w W → KidR W l[i].kids (.slice q l[i].kids.length d) → Calls Tryz.prog 104 #[nodeV l[i] q d] W fun e W' => e = .returned (.bool (pr l[i])) ∧ Below W.heap.size W W') :
    Calls Tryz.prog 51 #[.slice p l.length c, .func (.func 104) #[] #[]] w fun e w' => e = .returned (.bool (l.all pr)) ∧ Below w.heap.size w w' := by
  have hB : Below w.heap.size w (w.alloc (.cells #[.func (.func 104) #[] #[]] 25)) := (Below.refl _ _).alloc (Nat.le_refl _) _
  have hC := heap_alloc_new w (.cells #[.func (.func 104) #[] #[]] 25)
  have hr : l.all pr = !(l.any fun x => !pr x) := by rw [List.not_any_eq_all_not]; simp
  rw [hr]
  clear hr
  have hK := hk.low hB
  have hA := cont_any l p c w.heap.size (fun x => !pr x) _ hK hl (fun i hi q d W hbW hkW => evone_num _ _ _ _ _ _ _ _ (pr l[i]) W (cell_low (by rw [World.cell?, hC]; rfl) hbW)
    (fun W' hb' => hcall i hi q d W' (hB.trans ((hbW.trans (hb'.mono hbW.size)).mono hB.size)) (hkW.low hb')))
  replace hA := Lib.hid hA
  clear hcall hk hK
  go_enter Tryz.func51, Tryz.ntmps51
  go_upto_region 1 with (fail)
  generalize World.alloc w _ = w1 at hB hC hA ⊢
  replace hB := Lib.hid hB
  clear hC
  go_wp2_with (go_at_call 94; (with_reducible refine (hA.out).mono ?_); rintro e w2 ⟨rfl, b2⟩)
  all_goals
    go_ret
    exact ⟨rfl, hB.out.trans (b2.mono hB.out.size)⟩
theorem evone_nam (k : Int) (tx : List UInt8) (n a : Int) (p : Option Addr) (m c X : Nat) (v : Bool) (w : World) (hX : w.cell? ⟨X, 0, none⟩ = some (.func (.func 98) #[] #[]))
    (hcall : ∀ W, Below w.heap.size w W → Calls Tryz.prog 98 #[(Value.agg #[.int .i64 k, .string ⟨List.toArray tx⟩, .int .i64 n, .int .i64 a, .slice p m c])] W fun e W' => e = .returned (.bool v) ∧ Below W.heap.size W W') :
    Calls Tryz.prog 95 #[(Value.agg #[.int .i64 k, .string ⟨List.toArray tx⟩, .int .i64 n, .int .i64 a, .slice p m c]), .pointer (some ⟨X, 0, none⟩)] w fun e w' => e = .returned (.bool (!v)) ∧ Below w.heap.size w w' := by
  replace hcall := Lib.hid hcall
  have hX' := fun W (h : Below w.heap.size w W) => cell_low hX h
  clear hX
  have hB := boxed_below w k tx n a p m c
  have hC := boxed_new w k tx n a p m c
  unfold boxed at hB hC
  go_enter Tryz.func95, Tryz.ntmps95
  go_upto_region 1 with (fail)
  generalize World.alloc w _ = w1 at hB hC ⊢
  obtain ⟨c0, c1, c2, c3, c4⟩ := five hC
  replace hB := Lib.hid hB
  replace hC := Lib.hid hC
  have q0 := hX' _ hB.out
  clear hX'
  go_wp2_with (go_at_call 98; (with_reducible refine (hcall.out _ hB.out).mono ?_); rintro e w2 ⟨rfl, b2⟩)
  all_goals
    go_ret
    exact ⟨rfl, hB.out.trans (b2.mono hB.out.size)⟩
theorem every_nam (l : List Syn) (p : Option Addr) (c : Nat) (pr : Syn → Bool) (w : World) (hk : KidR w l (.slice p l.length c)) (hl : l.length ≤ 100000)
    (hcall : ∀ i (hi : i < l.length) q d W, Below w.heap.size w W → KidR W l[i].kids (.slice q l[i].kids.length d) → Calls Tryz.prog 98 #[nodeV l[i] q d] W fun e W' => e = .returned (.bool (pr l[i])) ∧ Below W.heap.size W W') :
    Calls Tryz.prog 51 #[.slice p l.length c, .func (.func 98) #[] #[]] w fun e w' => e = .returned (.bool (l.all pr)) ∧ Below w.heap.size w w' := by
  have hB : Below w.heap.size w (w.alloc (.cells #[.func (.func 98) #[] #[]] 25)) := (Below.refl _ _).alloc (Nat.le_refl _) _
  have hC := heap_alloc_new w (.cells #[.func (.func 98) #[] #[]] 25)
  have hr : l.all pr = !(l.any fun x => !pr x) := by rw [List.not_any_eq_all_not]; simp
  rw [hr]
  clear hr
  have hK := hk.low hB
  have hA := cont_any l p c w.heap.size (fun x => !pr x) _ hK hl (fun i hi q d W hbW hkW => evone_nam _ _ _ _ _ _ _ _ (pr l[i]) W (cell_low (by rw [World.cell?, hC]; rfl) hbW)
    (fun W' hb' => hcall i hi q d W' (hB.trans ((hbW.trans (hb'.mono hbW.size)).mono hB.size)) (hkW.low hb')))
  replace hA := Lib.hid hA
  clear hcall hk hK
  go_enter Tryz.func51, Tryz.ntmps51
  go_upto_region 1 with (fail)
  generalize World.alloc w _ = w1 at hB hC hA ⊢
  replace hB := Lib.hid hB
  clear hC
  go_wp2_with (go_at_call 94; (with_reducible refine (hA.out).mono ?_); rintro e w2 ⟨rfl, b2⟩)
  all_goals
    go_ret
    exact ⟨rfl, hB.out.trans (b2.mono hB.out.size)⟩
theorem evone_decl (k : Int) (tx : List UInt8) (n a : Int) (p : Option Addr) (m c X : Nat) (v : Bool) (w : World) (hX : w.cell? ⟨X, 0, none⟩ = some (.func (.func 52) #[] #[]))
    (hcall : ∀ W, Below w.heap.size w W → Calls Tryz.prog 52 #[(Value.agg #[.int .i64 k, .string ⟨List.toArray tx⟩, .int .i64 n, .int .i64 a, .slice p m c])] W fun e W' => e = .returned (.bool v) ∧ Below W.heap.size W W') :
    Calls Tryz.prog 95 #[(Value.agg #[.int .i64 k, .string ⟨List.toArray tx⟩, .int .i64 n, .int .i64 a, .slice p m c]), .pointer (some ⟨X, 0, none⟩)] w fun e w' => e = .returned (.bool (!v)) ∧ Below w.heap.size w w' := by
  replace hcall := Lib.hid hcall
  have hX' := fun W (h : Below w.heap.size w W) => cell_low hX h
  clear hX
  have hB := boxed_below w k tx n a p m c
  have hC := boxed_new w k tx n a p m c
  unfold boxed at hB hC
  go_enter Tryz.func95, Tryz.ntmps95
  go_upto_region 1 with (fail)
  generalize World.alloc w _ = w1 at hB hC ⊢
  obtain ⟨c0, c1, c2, c3, c4⟩ := five hC
  replace hB := Lib.hid hB
  replace hC := Lib.hid hC
  have q0 := hX' _ hB.out
  clear hX'
  go_wp2_with (go_at_call 52; (with_reducible refine (hcall.out _ hB.out).mono ?_); rintro e w2 ⟨rfl, b2⟩)
  all_goals
    go_ret
    exact ⟨rfl, hB.out.trans (b2.mono hB.out.size)⟩
theorem every_decl (l : List Syn) (p : Option Addr) (c : Nat) (pr : Syn → Bool) (w : World) (hk : KidR w l (.slice p l.length c)) (hl : l.length ≤ 100000)
    (hcall : ∀ i (hi : i < l.length) q d W, Below w.heap.size w W → KidR W l[i].kids (.slice q l[i].kids.length d) → Calls Tryz.prog 52 #[nodeV l[i] q d] W fun e W' => e = .returned (.bool (pr l[i])) ∧ Below W.heap.size W W') :
    Calls Tryz.prog 51 #[.slice p l.length c, .func (.func 52) #[] #[]] w fun e w' => e = .returned (.bool (l.all pr)) ∧ Below w.heap.size w w' := by
  have hB : Below w.heap.size w (w.alloc (.cells #[.func (.func 52) #[] #[]] 25)) := (Below.refl _ _).alloc (Nat.le_refl _) _
  have hC := heap_alloc_new w (.cells #[.func (.func 52) #[] #[]] 25)
  have hr : l.all pr = !(l.any fun x => !pr x) := by rw [List.not_any_eq_all_not]; simp
  rw [hr]
  clear hr
  have hK := hk.low hB
  have hA := cont_any l p c w.heap.size (fun x => !pr x) _ hK hl (fun i hi q d W hbW hkW => evone_decl _ _ _ _ _ _ _ _ (pr l[i]) W (cell_low (by rw [World.cell?, hC]; rfl) hbW)
    (fun W' hb' => hcall i hi q d W' (hB.trans ((hbW.trans (hb'.mono hbW.size)).mono hB.size)) (hkW.low hb')))
  replace hA := Lib.hid hA
  clear hcall hk hK
  go_enter Tryz.func51, Tryz.ntmps51
  go_upto_region 1 with (fail)
  generalize World.alloc w _ = w1 at hB hC hA ⊢
  replace hB := Lib.hid hB
  clear hC
  go_wp2_with (go_at_call 94; (with_reducible refine (hA.out).mono ?_); rintro e w2 ⟨rfl, b2⟩)
  all_goals
    go_ret
    exact ⟨rfl, hB.out.trans (b2.mono hB.out.size)⟩
theorem evone_valid (k : Int) (tx : List UInt8) (n a : Int) (p : Option Addr) (m c X : Nat) (K : Nat) (v : Bool) (w : World) (hX : w.cell? ⟨X, 0, none⟩ = some (.func (.func 101) #[] #[.pointer (some ⟨K, 0, none⟩)]))
    (hcall : ∀ W, Below w.heap.size w W → Calls Tryz.prog 101 #[(Value.agg #[.int .i64 k, .string ⟨List.toArray tx⟩, .int .i64 n, .int .i64 a, .slice p m c]), .pointer (some ⟨K, 0, none⟩)] W fun e W' => e = .returned (.bool v) ∧ Below W.heap.size W W') :
    Calls Tryz.prog 95 #[(Value.agg #[.int .i64 k, .string ⟨List.toArray tx⟩, .int .i64 n, .int .i64 a, .slice p m c]), .pointer (some ⟨X, 0, none⟩)] w fun e w' => e = .returned (.bool (!v)) ∧ Below w.heap.size w w' := by
  replace hcall := Lib.hid hcall
  have hX' := fun W (h : Below w.heap.size w W) => cell_low hX h
  clear hX
  have hB := boxed_below w k tx n a p m c
  have hC := boxed_new w k tx n a p m c
  unfold boxed at hB hC
  go_enter Tryz.func95, Tryz.ntmps95
  go_upto_region 1 with (fail)
  generalize World.alloc w _ = w1 at hB hC ⊢
  obtain ⟨c0, c1, c2, c3, c4⟩ := five hC
  replace hB := Lib.hid hB
  replace hC := Lib.hid hC
  have q0 := hX' _ hB.out
  clear hX'
  go_wp2_with (go_at_call 101; (with_reducible refine (hcall.out _ hB.out).mono ?_); rintro e w2 ⟨rfl, b2⟩)
  all_goals
    go_ret
    exact ⟨rfl, hB.out.trans (b2.mono hB.out.size)⟩
theorem every_valid (l : List Syn) (p : Option Addr) (c : Nat) (pr : Syn → Bool) (K : Nat) (w : World) (hk : KidR w l (.slice p l.length c)) (hl : l.length ≤ 100000)
    (hcall : ∀ i (hi : i < l.length) q d W, Below w.heap.size w W → KidR W l[i].kids (.slice q l[i].kids.length d) → Calls Tryz.prog 101 #[nodeV l[i] q d, .pointer (some ⟨K, 0, none⟩)] W fun e W' => e = .returned (.bool (pr l[i])) ∧ Below W.heap.size W W') :
    Calls Tryz.prog 51 #[.slice p l.length c, .func (.func 101) #[] #[.pointer (some ⟨K, 0, none⟩)]] w fun e w' => e = .returned (.bool (l.all pr)) ∧ Below w.heap.size w w' := by
  have hB : Below w.heap.size w (w.alloc (.cells #[.func (.func 101) #[] #[.pointer (some ⟨K, 0, none⟩)]] 25)) := (Below.refl _ _).alloc (Nat.le_refl _) _
  have hC := heap_alloc_new w (.cells #[.func (.func 101) #[] #[.pointer (some ⟨K, 0, none⟩)]] 25)
  have hr : l.all pr = !(l.any fun x => !pr x) := by rw [List.not_any_eq_all_not]; simp
  rw [hr]
  clear hr
  have hK := hk.low hB
  have hA := cont_any l p c w.heap.size (fun x => !pr x) _ hK hl (fun i hi q d W hbW hkW => evone_valid _ _ _ _ _ _ _ _ K (pr l[i]) W (cell_low (by rw [World.cell?, hC]; rfl) hbW)
    (fun W' hb' => hcall i hi q d W' (hB.trans ((hbW.trans (hb'.mono hbW.size)).mono hB.size)) (hkW.low hb')))
  replace hA := Lib.hid hA
  clear hcall hk hK
  go_enter Tryz.func51, Tryz.ntmps51
  go_upto_region 1 with (fail)
  generalize World.alloc w _ = w1 at hB hC hA ⊢
  replace hB := Lib.hid hB
  clear hC
  go_wp2_with (go_at_call 94; (with_reducible refine (hA.out).mono ?_); rintro e w2 ⟨rfl, b2⟩)
  all_goals
    go_ret
    exact ⟨rfl, hB.out.trans (b2.mono hB.out.size)⟩
theorem evone_call (k : Int) (tx : List UInt8) (n a : Int) (p : Option Addr) (m c X : Nat) (K : Nat) (v : Bool) (w : World) (hX : w.cell? ⟨X, 0, none⟩ = some (.func (.func 147) #[] #[.pointer (some ⟨K, 0, none⟩)]))
    (hcall : ∀ W, Below w.heap.size w W → Calls Tryz.prog 147 #[(Value.agg #[.int .i64 k, .string ⟨List.toArray tx⟩, .int .i64 n, .int .i64 a, .slice p m c]), .pointer (some ⟨K, 0, none⟩)] W fun e W' => e = .returned (.bool v) ∧ Below W.heap.size W W') :
    Calls Tryz.prog 95 #[(Value.agg #[.int .i64 k, .string ⟨List.toArray tx⟩, .int .i64 n, .int .i64 a, .slice p m c]), .pointer (some ⟨X, 0, none⟩)] w fun e w' => e = .returned (.bool (!v)) ∧ Below w.heap.size w w' := by
  replace hcall := Lib.hid hcall
  have hX' := fun W (h : Below w.heap.size w W) => cell_low hX h
  clear hX
  have hB := boxed_below w k tx n a p m c
  have hC := boxed_new w k tx n a p m c
  unfold boxed at hB hC
  go_enter Tryz.func95, Tryz.ntmps95
  go_upto_region 1 with (fail)
  generalize World.alloc w _ = w1 at hB hC ⊢
  obtain ⟨c0, c1, c2, c3, c4⟩ := five hC
  replace hB := Lib.hid hB
  replace hC := Lib.hid hC
  have q0 := hX' _ hB.out
  clear hX'
  go_wp2_with (go_at_call 147; (with_reducible refine (hcall.out _ hB.out).mono ?_); rintro e w2 ⟨rfl, b2⟩)
  all_goals
    go_ret
    exact ⟨rfl, hB.out.trans (b2.mono hB.out.size)⟩
theorem every_call (l : List Syn) (p : Option Addr) (c : Nat) (pr : Syn → Bool) (K : Nat) (w : World) (hk : KidR w l (.slice p l.length c)) (hl : l.length ≤ 100000)
    (hcall : ∀ i (hi : i < l.length) q d W, Below w.heap.size w W → KidR W l[i].kids (.slice q l[i].kids.length d) → Calls Tryz.prog 147 #[nodeV l[i] q d, .pointer (some ⟨K, 0, none⟩)] W fun e W' => e = .returned (.bool (pr l[i])) ∧ Below W.heap.size W W') :
    Calls Tryz.prog 51 #[.slice p l.length c, .func (.func 147) #[] #[.pointer (some ⟨K, 0, none⟩)]] w fun e w' => e = .returned (.bool (l.all pr)) ∧ Below w.heap.size w w' := by
  have hB : Below w.heap.size w (w.alloc (.cells #[.func (.func 147) #[] #[.pointer (some ⟨K, 0, none⟩)]] 25)) := (Below.refl _ _).alloc (Nat.le_refl _) _
  have hC := heap_alloc_new w (.cells #[.func (.func 147) #[] #[.pointer (some ⟨K, 0, none⟩)]] 25)
  have hr : l.all pr = !(l.any fun x => !pr x) := by rw [List.not_any_eq_all_not]; simp
  rw [hr]
  clear hr
  have hK := hk.low hB
  have hA := cont_any l p c w.heap.size (fun x => !pr x) _ hK hl (fun i hi q d W hbW hkW => evone_call _ _ _ _ _ _ _ _ K (pr l[i]) W (cell_low (by rw [World.cell?, hC]; rfl) hbW)
    (fun W' hb' => hcall i hi q d W' (hB.trans ((hbW.trans (hb'.mono hbW.size)).mono hB.size)) (hkW.low hb')))
  replace hA := Lib.hid hA
  clear hcall hk hK
  go_enter Tryz.func51, Tryz.ntmps51
  go_upto_region 1 with (fail)
  generalize World.alloc w _ = w1 at hB hC hA ⊢
  replace hB := Lib.hid hB
  clear hC
  go_wp2_with (go_at_call 94; (with_reducible refine (hA.out).mono ?_); rintro e w2 ⟨rfl, b2⟩)
  all_goals
    go_ret
    exact ⟨rfl, hB.out.trans (b2.mono hB.out.size)⟩
end Go.Proofs.YtplbfmcgddnkeaaGreatDoor
end
section
set_option maxHeartbeats 1000000
set_option maxRecDepth 100000
namespace Go.Proofs.YtplbfmcgddnkeaaGreatDoor
open Go.RowKit
theorem set_at {w : World} {M : Nat} {o : Obj} (h : w.heap[M]? = some o) (o' : Obj) : (ChangeMaps.setBlock w M o').heap[M]? = some o' := by
  have hlt := (Array.getElem?_eq_some_iff.1 h).1
  simp [ChangeMaps.setBlock, Array.getElem?_setIfInBounds, hlt]
theorem set_ne {w : World} {M n : Nat} (o' : Obj) (h : n ≠ M) : (ChangeMaps.setBlock w M o').heap[n]? = w.heap[n]? := by
  simp [ChangeMaps.setBlock, Array.getElem?_setIfInBounds, Ne.symm h]
theorem set_size (w : World) (M : Nat) (o' : Obj) : (ChangeMaps.setBlock w M o').heap.size = w.heap.size := by simp [ChangeMaps.setBlock]
theorem set_below {B M : Nat} {w0 w : World} (hb : Below B w0 w) (hM : B ≤ M) (o' : Obj) : Below B w0 (ChangeMaps.setBlock w M o') :=
  ⟨hb.os, hb.tape, hb.output, by rw [set_size]; exact hb.size, fun n hn => (set_ne o' (by omega)).trans (hb.block n hn)⟩
theorem ba_beq (c d : List UInt8) : (ByteArray.mk c.toArray == ByteArray.mk d.toArray) = decide (c = d) := by
  show (c.toArray == d.toArray) = _
  by_cases h : c = d
  · subst h; simp
  · simp [h]
theorem in_beq (c d : Int) : (c == d) = decide (c = d) := by by_cases h : c = d <;> simp [h]
def putS (e : List UInt8 × Value × Nat) : MapEntry := { key := .string ⟨e.1.toArray⟩, val := e.2.1, born := e.2.2 }
def findS (c : List UInt8) (L : List (List UInt8 × Value × Nat)) : Option Value := (L.find? (fun e => e.1 == c)).map (·.2.1)
theorem nowS (c : List UInt8) : ∀ (L : List (List UInt8 × Value × Nat)) (i : Nat), ∃ r, Instr.findNow .string (.string ⟨c.toArray⟩) (L.map putS) i = some r ∧ r.map (·.2) = findS c L
  | [], i => ⟨none, rfl, rfl⟩
  | e :: L, i => by
    obtain ⟨r, h1, h2⟩ := nowS c L (i + 1)
    by_cases he : c = e.1
    · refine ⟨some (i, e.2.1), ?_, ?_⟩
      · simp [Instr.findNow, putS, Instr.sameNow, he, ba_beq]
      · simp [findS, he]
    · refine ⟨r, ?_, ?_⟩
      · have hc : ((ByteArray.mk c.toArray) == (ByteArray.mk e.1.toArray)) = false := by rw [ba_beq]; simpa using he
        simp only [List.map_cons, Instr.findNow, putS, Instr.sameNow, if_true, hc]
        exact h1
      · rw [h2]
        have : (e.1 == c) = false := by rw [beq_eq_false_iff_ne]; exact fun h => he h.symm
        simp [findS, List.find?_cons, this]
theorem checkS (b : Bool) (c : List UInt8) (w : World) : (Instr.checkKey b 10000 9 (.string ⟨c.toArray⟩)).run Tryz.prog w = .ok () w := by
  show (Instr.checkKey b (9999 + 1) 9 (.string ⟨c.toArray⟩)).run Tryz.prog w = _
  unfold Instr.checkKey
  rw [Sem.run_bind, run_underlying Tryz.underlying9]
  rfl
theorem keyS (c : List UInt8) (L : List (List UInt8 × Value × Nat)) (w : World) {r : Option (Nat × Value)} (h : Instr.findNow .string (.string ⟨c.toArray⟩) (L.map putS) 0 = some r) : (Instr.findKey 9 (.string ⟨c.toArray⟩) (L.map putS)).run Tryz.prog w = .ok r w := by
  simp [Instr.findKey, run_underlying Tryz.underlying9, h]
def MapS (w : World) (M : Nat) (L : List (List UInt8 × Value × Nat)) : Prop := ∃ clock, w.heap[M]? = some (.map (L.map putS).toArray clock)
theorem MapS.low {w w' : World} {M : Nat} {L : List (List UInt8 × Value × Nat)} (h : MapS w M L) (hb : Below w.heap.size w w') : MapS w' M L := by
  obtain ⟨clock, h⟩ := h
  exact ⟨clock, (hb.block M (Array.getElem?_eq_some_iff.1 h).1).trans h⟩
def putI (e : Int × Value × Nat) : MapEntry := { key := .int .i64 e.1, val := e.2.1, born := e.2.2 }
def findI (c : Int) (L : List (Int × Value × Nat)) : Option Value := (L.find? (fun e => e.1 == c)).map (·.2.1)
theorem nowI (c : Int) : ∀ (L : List (Int × Value × Nat)) (i : Nat), ∃ r, Instr.findNow (.int .i64) (.int .i64 c) (L.map putI) i = some r ∧ r.map (·.2) = findI c L
  | [], i => ⟨none, rfl, rfl⟩
  | e :: L, i => by
    obtain ⟨r, h1, h2⟩ := nowI c L (i + 1)
    by_cases he : c = e.1
    · refine ⟨some (i, e.2.1), ?_, ?_⟩
      · simp [Instr.findNow, putI, Instr.sameNow, he, in_beq]
      · simp [findI, he]
    · refine ⟨r, ?_, ?_⟩
      · have hc : (c == e.1) = false := by rw [in_beq]; simpa using he
        simp only [List.map_cons, Instr.findNow, putI, Instr.sameNow, if_true, hc]
        exact h1
      · rw [h2]
        have : (e.1 == c) = false := by rw [beq_eq_false_iff_ne]; exact fun h => he h.symm
        simp [findI, List.find?_cons, this]
theorem checkI (b : Bool) (c : Int) (w : World) : (Instr.checkKey b 10000 3 (.int .i64 c)).run Tryz.prog w = .ok () w := by
  show (Instr.checkKey b (9999 + 1) 3 (.int .i64 c)).run Tryz.prog w = _
  unfold Instr.checkKey
  rw [Sem.run_bind, run_underlying Tryz.underlying3]
  rfl
theorem keyI (c : Int) (L : List (Int × Value × Nat)) (w : World) {r : Option (Nat × Value)} (h : Instr.findNow (.int .i64) (.int .i64 c) (L.map putI) 0 = some r) : (Instr.findKey 3 (.int .i64 c) (L.map putI)).run Tryz.prog w = .ok r w := by
  simp [Instr.findKey, run_underlying Tryz.underlying3, h]
def MapI (w : World) (M : Nat) (L : List (Int × Value × Nat)) : Prop := ∃ clock, w.heap[M]? = some (.map (L.map putI).toArray clock)
theorem MapI.low {w w' : World} {M : Nat} {L : List (Int × Value × Nat)} (h : MapI w M L) (hb : Below w.heap.size w w') : MapI w' M L := by
  obtain ⟨clock, h⟩ := h
  exact ⟨clock, (hb.block M (Array.getElem?_eq_some_iff.1 h).1).trans h⟩
theorem zeroOp (w : World) : (zeroValue 118).run Tryz.prog w = .ok (.agg #[.int .i64 0, .int .i64 0, .int .i64 0]) w := by
  obtain ⟨i0, hi, hz0, -, -⟩ := info_parts (show (Tryz.prog.info? 118).map (fun i => (i.zero, i.size, i.bytes)) = some (some (.agg #[.int .i64 0, .int .i64 0, .int .i64 0]), 3, 24) by kernel_rfl)
  simp [zeroValue, typeInfo, hi, hz0]
theorem lookOp {w : World} {M : Nat} {L : List (List UInt8 × Value × Nat)} (h : MapS w M L) (c : List UInt8) :
    (Instr.lookup 120 (.map (some M)) (.string ⟨c.toArray⟩) true).run Tryz.prog w = .ok (.tuple #[(findS c L).getD (.agg #[.int .i64 0, .int .i64 0, .int .i64 0]), .bool (findS c L).isSome]) w := by
  obtain ⟨clock, h⟩ := h
  obtain ⟨r, h1, h2⟩ := nowS c L 0
  have h3 := keyS c L w h1
  rw [← h2]
  cases r with
  | none => simp [Instr.lookup, run_underlying Tryz.underlying120, MapKept.run_getObj_map h, checkS, h3, zeroOp, Result.andThen]
  | some r => simp [Instr.lookup, run_underlying Tryz.underlying120, MapKept.run_getObj_map h, checkS, h3, zeroOp, Result.andThen]
theorem look1Op {w : World} {M : Nat} {L : List (List UInt8 × Value × Nat)} (h : MapS w M L) (c : List UInt8) :
    (Instr.lookup 120 (.map (some M)) (.string ⟨c.toArray⟩) false).run Tryz.prog w = .ok ((findS c L).getD (.agg #[.int .i64 0, .int .i64 0, .int .i64 0])) w := by
  obtain ⟨clock, h⟩ := h
  obtain ⟨r, h1, h2⟩ := nowS c L 0
  have h3 := keyS c L w h1
  rw [← h2]
  cases r with
  | none => simp [Instr.lookup, run_underlying Tryz.underlying120, MapKept.run_getObj_map h, checkS, h3, zeroOp, Result.andThen]
  | some r => simp [Instr.lookup, run_underlying Tryz.underlying120, MapKept.run_getObj_map h, checkS, h3, zeroOp, Result.andThen]
theorem newOp {w w0 : World} {M B : Nat} {L : List (List UInt8 × Value × Nat)} (h : MapS w M L) (hb : Below B w0 w) (hM : B ≤ M) (c : List UInt8) (v : Value) (hc : findS c L = none) :
    ∃ w' t, (Instr.mapUpdate 120 (.map (some M)) (.string ⟨c.toArray⟩) v).run Tryz.prog w = .ok () w' ∧ MapS w' M (L ++ [(c, v, t)]) ∧ Below B w0 w' := by
  obtain ⟨clock, h⟩ := h
  obtain ⟨r, h1, h2⟩ := nowS c L 0
  have h3 := keyS c L w h1
  cases r with
  | some r => rw [hc] at h2; cases h2
  | none =>
    refine ⟨ChangeMaps.setBlock w M (.map ((L ++ [(c, v, clock)]).map putS).toArray (clock + 1)), clock, ?_, ⟨clock + 1, set_at h _⟩, set_below hb hM _⟩
    simp [Instr.mapUpdate, run_underlying Tryz.underlying120, MapKept.run_getObj_map h, checkS, h3, MapKept.run_setObj_map _ h, Result.andThen, putS, ChangeMaps.setBlock]
theorem zeroWd (w : World) : (zeroValue 9).run Tryz.prog w = .ok (.string ⟨#[]⟩) w := by
  obtain ⟨i0, hi, hz0, -, -⟩ := info_parts (show (Tryz.prog.info? 9).map (fun i => (i.zero, i.size, i.bytes)) = some (some (.string ⟨#[]⟩), 1, 16) by kernel_rfl)
  simp [zeroValue, typeInfo, hi, hz0]
theorem look1Wd {w : World} {M : Nat} {L : List (Int × Value × Nat)} (h : MapI w M L) (c : Int) :
    (Instr.lookup 116 (.map (some M)) (.int .i64 c) false).run Tryz.prog w = .ok ((findI c L).getD (.string ⟨#[]⟩)) w := by
  obtain ⟨clock, h⟩ := h
  obtain ⟨r, h1, h2⟩ := nowI c L 0
  have h3 := keyI c L w h1
  rw [← h2]
  cases r with
  | none => simp [Instr.lookup, run_underlying Tryz.underlying116, MapKept.run_getObj_map h, checkI, h3, zeroWd, Result.andThen]
  | some r => simp [Instr.lookup, run_underlying Tryz.underlying116, MapKept.run_getObj_map h, checkI, h3, zeroWd, Result.andThen]
theorem newWd {w w0 : World} {M B : Nat} {L : List (Int × Value × Nat)} (h : MapI w M L) (hb : Below B w0 w) (hM : B ≤ M) (c : Int) (v : Value) (hc : findI c L = none) :
    ∃ w' t, (Instr.mapUpdate 116 (.map (some M)) (.int .i64 c) v).run Tryz.prog w = .ok () w' ∧ MapI w' M (L ++ [(c, v, t)]) ∧ Below B w0 w' := by
  obtain ⟨clock, h⟩ := h
  obtain ⟨r, h1, h2⟩ := nowI c L 0
  have h3 := keyI c L w h1
  cases r with
  | some r => rw [hc] at h2; cases h2
  | none =>
    refine ⟨ChangeMaps.setBlock w M (.map ((L ++ [(c, v, clock)]).map putI).toArray (clock + 1)), clock, ?_, ⟨clock + 1, set_at h _⟩, set_below hb hM _⟩
    simp [Instr.mapUpdate, run_underlying Tryz.underlying116, MapKept.run_getObj_map h, checkI, h3, MapKept.run_setObj_map _ h, Result.andThen, putI, ChangeMaps.setBlock]
theorem zeroIn (w : World) : (zeroValue 3).run Tryz.prog w = .ok (.int .i64 0) w := by
  obtain ⟨i0, hi, hz0, -, -⟩ := info_parts (show (Tryz.prog.info? 3).map (fun i => (i.zero, i.size, i.bytes)) = some (some (.int .i64 0), 1, 8) by kernel_rfl)
  simp [zeroValue, typeInfo, hi, hz0]
theorem look1In {w : World} {M : Nat} {L : List (Int × Value × Nat)} (h : MapI w M L) (c : Int) :
    (Instr.lookup 123 (.map (some M)) (.int .i64 c) false).run Tryz.prog w = .ok ((findI c L).getD (.int .i64 0)) w := by
  obtain ⟨clock, h⟩ := h
  obtain ⟨r, h1, h2⟩ := nowI c L 0
  have h3 := keyI c L w h1
  rw [← h2]
  cases r with
  | none => simp [Instr.lookup, run_underlying Tryz.underlying123, MapKept.run_getObj_map h, checkI, h3, zeroIn, Result.andThen]
  | some r => simp [Instr.lookup, run_underlying Tryz.underlying123, MapKept.run_getObj_map h, checkI, h3, zeroIn, Result.andThen]
theorem newIn {w w0 : World} {M B : Nat} {L : List (Int × Value × Nat)} (h : MapI w M L) (hb : Below B w0 w) (hM : B ≤ M) (c : Int) (v : Value) (hc : findI c L = none) :
    ∃ w' t, (Instr.mapUpdate 123 (.map (some M)) (.int .i64 c) v).run Tryz.prog w = .ok () w' ∧ MapI w' M (L ++ [(c, v, t)]) ∧ Below B w0 w' := by
  obtain ⟨clock, h⟩ := h
  obtain ⟨r, h1, h2⟩ := nowI c L 0
  have h3 := keyI c L w h1
  cases r with
  | some r => rw [hc] at h2; cases h2
  | none =>
    refine ⟨ChangeMaps.setBlock w M (.map ((L ++ [(c, v, clock)]).map putI).toArray (clock + 1)), clock, ?_, ⟨clock + 1, set_at h _⟩, set_below hb hM _⟩
    simp [Instr.mapUpdate, run_underlying Tryz.underlying123, MapKept.run_getObj_map h, checkI, h3, MapKept.run_setObj_map _ h, Result.andThen, putI, ChangeMaps.setBlock]
end Go.Proofs.YtplbfmcgddnkeaaGreatDoor
end
section
set_option maxHeartbeats 1000000
set_option maxRecDepth 100000
namespace Go.Proofs.YtplbfmcgddnkeaaGreatDoor
open Go.RowKit
def opV (o : Nat × Nat × Nat) : Value := .agg #[.int .i64 o.1, .int .i64 o.2.1, .int .i64 o.2.2]
def OpsAt (k : Nat) (w : World) (M : Nat) : Prop := ∃ L, MapS w M L ∧ ∀ t, findS t L = (opP k t).map opV
theorem OpsAt.low {k : Nat} {w w' : World} {M : Nat} (h : OpsAt k w M) (hb : Below w.heap.size w w') : OpsAt k w' M := by
  obtain ⟨L, h, h'⟩ := h
  exact ⟨L, h.low hb, h'⟩
def OpsPost (k : Nat) (w : World) (e : Ending) (w' : World) : Prop := ∃ M, e = .returned (.map (some M)) ∧ OpsAt k w' M ∧ Below w.heap.size w w'
theorem neq_beq {s t : List UInt8} (h : ¬ t = s) : (s == t) = false := by rw [beq_eq_false_iff_ne]; exact Ne.symm h
theorem ops1_any (w : World) : Calls Tryz.prog 102 #[.int .i64 1] w (OpsPost 1 w) := by
  have m0 : MapS (w.alloc (.map #[] 0)) w.heap.size [] := ⟨0, heap_alloc_new _ _⟩
  have b0 : Below w.heap.size w (w.alloc (.map #[] 0)) := (Below.refl _ _).alloc (Nat.le_refl _) _
  have hmm := @run_makeMap Tryz.prog
  obtain ⟨w1, t1, r1, m1, b1⟩ := newOp m0 b0 (Nat.le_refl _) [111, 114] (.agg #[.int .i64 0, .int .i64 0, .int .i64 1]) (by unfold findS; simp; try decide)
  obtain ⟨w2, t2, r2, m2, b2⟩ := newOp m1 b1 (Nat.le_refl _) [97, 110, 100] (.agg #[.int .i64 1, .int .i64 1, .int .i64 2]) (by unfold findS; simp; try decide)
  obtain ⟨w3, t3, r3, m3, b3⟩ := newOp m2 b2 (Nat.le_refl _) [116, 104, 101, 110] (.agg #[.int .i64 2, .int .i64 3, .int .i64 2]) (by unfold findS; simp; try decide)
  have fin : OpsPost 1 w (.returned (.map (some w.heap.size))) w3 := ⟨_, rfl, ⟨_, m3, fun t => by
    unfold findS
    by_cases h1 : t = kOr
    · subst h1; rfl
    · by_cases h2 : t = kAnd
      · subst h2; rfl
      · by_cases h3 : t = kThen
        · subst h3; rfl
        · simp [opP, List.find?_cons, neq_beq (s := [111, 114]) h1, neq_beq (s := [97, 110, 100]) h2, neq_beq h3, h1, h2, h3]⟩, b3⟩
  clear m0 b0 m1 b1 m2 b2 m3 b3
  replace fin := Lib.hid fin
  go_enter Tryz.func102, Tryz.ntmps102
  go_wp2
  go_ret
  exact fin.out
theorem ops2_any (w : World) : Calls Tryz.prog 102 #[.int .i64 2] w (OpsPost 2 w) := by
  have m0 : MapS (w.alloc (.map #[] 0)) w.heap.size [] := ⟨0, heap_alloc_new _ _⟩
  have b0 : Below w.heap.size w (w.alloc (.map #[] 0)) := (Below.refl _ _).alloc (Nat.le_refl _) _
  have hmm := @run_makeMap Tryz.prog
  obtain ⟨w1, t1, r1, m1, b1⟩ := newOp m0 b0 (Nat.le_refl _) [117, 110, 116, 105, 108] (.agg #[.int .i64 0, .int .i64 1, .int .i64 0]) (by unfold findS; simp; try decide)
  obtain ⟨w2, t2, r2, m2, b2⟩ := newOp m1 b1 (Nat.le_refl _) [111, 114] (.agg #[.int .i64 1, .int .i64 1, .int .i64 2]) (by unfold findS; simp; try decide)
  obtain ⟨w3, t3, r3, m3, b3⟩ := newOp m2 b2 (Nat.le_refl _) [97, 110, 100] (.agg #[.int .i64 2, .int .i64 2, .int .i64 3]) (by unfold findS; simp; try decide)
  have fin : OpsPost 2 w (.returned (.map (some w.heap.size))) w3 := ⟨_, rfl, ⟨_, m3, fun t => by
    unfold findS
    by_cases h1 : t = kUntil
    · subst h1; rfl
    · by_cases h2 : t = kOr
      · subst h2; rfl
      · by_cases h3 : t = kAnd
        · subst h3; rfl
        · simp [opP, List.find?_cons, neq_beq h1, neq_beq (s := [111, 114]) h2, neq_beq (s := [97, 110, 100]) h3, h1, h2, h3]⟩, b3⟩
  clear m0 b0 m1 b1 m2 b2 m3 b3
  replace fin := Lib.hid fin
  go_enter Tryz.func102, Tryz.ntmps102
  go_wp2
  go_ret
  exact fin.out
theorem ops0_any (w : World) : Calls Tryz.prog 102 #[.int .i64 0] w (OpsPost 0 w) := by
  have m0 : MapS (w.alloc (.map #[] 0)) w.heap.size [] := ⟨0, heap_alloc_new _ _⟩
  have b0 : Below w.heap.size w (w.alloc (.map #[] 0)) := (Below.refl _ _).alloc (Nat.le_refl _) _
  have hmm := @run_makeMap Tryz.prog
  obtain ⟨w1, t1, r1, m1, b1⟩ := newOp m0 b0 (Nat.le_refl _) [111, 114] (.agg #[.int .i64 0, .int .i64 0, .int .i64 1]) (by unfold findS; simp; try decide)
  obtain ⟨w2, t2, r2, m2, b2⟩ := newOp m1 b1 (Nat.le_refl _) [97, 110, 100] (.agg #[.int .i64 1, .int .i64 1, .int .i64 2]) (by unfold findS; simp; try decide)
  obtain ⟨w3, t3, r3, m3, b3⟩ := newOp m2 b2 (Nat.le_refl _) [61] (.agg #[.int .i64 3, .int .i64 4, .int .i64 4]) (by unfold findS; simp; try decide)
  obtain ⟨w4, t4, r4, m4, b4⟩ := newOp m3 b3 (Nat.le_refl _) [33, 61] (.agg #[.int .i64 3, .int .i64 4, .int .i64 4]) (by unfold findS; simp; try decide)
  obtain ⟨w5, t5, r5, m5, b5⟩ := newOp m4 b4 (Nat.le_refl _) [60] (.agg #[.int .i64 3, .int .i64 4, .int .i64 4]) (by unfold findS; simp; try decide)
  obtain ⟨w6, t6, r6, m6, b6⟩ := newOp m5 b5 (Nat.le_refl _) [60, 61] (.agg #[.int .i64 3, .int .i64 4, .int .i64 4]) (by unfold findS; simp; try decide)
  obtain ⟨w7, t7, r7, m7, b7⟩ := newOp m6 b6 (Nat.le_refl _) [43] (.agg #[.int .i64 4, .int .i64 4, .int .i64 5]) (by unfold findS; simp; try decide)
  obtain ⟨w8, t8, r8, m8, b8⟩ := newOp m7 b7 (Nat.le_refl _) [45] (.agg #[.int .i64 4, .int .i64 4, .int .i64 5]) (by unfold findS; simp; try decide)
  have fin : OpsPost 0 w (.returned (.map (some w.heap.size))) w8 := ⟨_, rfl, ⟨_, m8, fun t => by
    unfold findS
    by_cases h1 : t = kOr
    · subst h1; rfl
    by_cases h2 : t = kAnd
    · subst h2; rfl
    by_cases h3 : t = [61]
    · subst h3; rfl
    by_cases h4 : t = [33, 61]
    · subst h4; rfl
    by_cases h5 : t = [60]
    · subst h5; rfl
    by_cases h6 : t = [60, 61]
    · subst h6; rfl
    by_cases h7 : t = [43]
    · subst h7; rfl
    by_cases h8 : t = [45]
    · subst h8; rfl
    simp [opP, List.find?_cons, neq_beq (s := [111, 114]) h1, neq_beq (s := [97, 110, 100]) h2, neq_beq h3, neq_beq h4, neq_beq h5, neq_beq h6, neq_beq h7, neq_beq h8, h1, h2, h3, h4, h5, h6, h7, h8]⟩, b8⟩
  clear m0 b0 m1 b1 m2 b2 m3 b3 m4 b4 m5 b5 m6 b6 m7 b7 m8 b8
  replace fin := Lib.hid fin
  go_enter Tryz.func102, Tryz.ntmps102
  go_wp2
  go_ret
  exact fin.out
theorem ops_any (k : Nat) (hk : k ≤ 2) (w : World) : Calls Tryz.prog 102 #[.int .i64 k] w (OpsPost k w) := by
  match k, hk with
  | 0, _ => exact ops0_any w
  | 1, _ => exact ops1_any w
  | 2, _ => exact ops2_any w
theorem OpsAt.look {k : Nat} {w : World} {M : Nat} (h : OpsAt k w M) (t : List UInt8) : (Instr.lookup 120 (.map (some M)) (.string ⟨t.toArray⟩) true).run Tryz.prog w =
    .ok (.tuple #[.agg #[.int .i64 (own k t), .int .i64 (lft k t), .int .i64 (rgt k t)], .bool (opP k t).isSome]) w := by
  obtain ⟨L, h, h'⟩ := h
  rw [lookOp h, h']
  unfold own lft rgt
  cases opP k t <;> rfl
theorem OpsAt.look1 {k : Nat} {w : World} {M : Nat} (h : OpsAt k w M) (t : List UInt8) : (Instr.lookup 120 (.map (some M)) (.string ⟨t.toArray⟩) false).run Tryz.prog w =
    .ok (.agg #[.int .i64 (own k t), .int .i64 (lft k t), .int .i64 (rgt k t)]) w := by
  obtain ⟨L, h, h'⟩ := h
  rw [look1Op h, h']
  unfold own lft rgt
  cases opP k t <;> rfl
end Go.Proofs.YtplbfmcgddnkeaaGreatDoor
end
