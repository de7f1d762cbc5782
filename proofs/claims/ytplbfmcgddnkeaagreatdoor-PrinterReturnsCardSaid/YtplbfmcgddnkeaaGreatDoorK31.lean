/- Joined: ParP. -/
import Derived.Test.YtplbfmcgddnkeaaGreatDoorK30
set_option linter.unusedVariables false
set_option linter.unusedSimpArgs false
section
set_option maxHeartbeats 1000000
set_option maxRecDepth 100000
namespace Go.Proofs.YtplbfmcgddnkeaaGreatDoor
open Go.RowKit
attribute [local go_sem ↓] Go.wp_at_zero Go.wp_at_succ
theorem punit_any (pb tb c lv i f : Nat) (T : List Tok) (w : World) (h : PS pb tb c T i lv w) (hl : lv ≤ 128) (hne : rd reservedB T (f + 1) .unit lv i ≠ .none)
    (hsum : ∀ lv, lv ≤ 128 → RdAt pb tb c T 161 (rd reservedB T f .sum) lv)
    (hcond : ∀ lv, lv ≤ 128 → RdAt pb tb c T 35 (rd reservedB T f .cond) lv) :
    Calls Tryz.prog 188 #[.pointer (some ⟨pb, 0, none⟩)] w (POut pb tb c lv T w (rd reservedB T (f + 1) .unit lv i)) := by
  have hA := (At.begin h).alloc z5 24
  have hres := Lib.hid (show rd reservedB T (f + 1) .unit lv i = if (tk T i).kind = 1 then number T i
    else if isW T [[105, 110], [111, 117, 116]] i then arguments T (tk T i) [rd reservedB T f .sum] lv (nx T i)
    else if isW T [[104, 101, 97, 114, 115]] i then arguments T (tk T i) [rd reservedB T f .sum, rd reservedB T f .sum] lv (nx T i)
    else if isW T [[99, 111, 117, 110, 116]] i then
      (name reservedB T (nx T i)).bind fun v j => (parens T (rd reservedB T f .cond) lv j).bind fun x j => .ok (.mk 13 (tk T i).text 0 (tk T i).pos [v, x]) j
    else if isW T [[40]] i then parens T (rd reservedB T f .cond) lv i
    else name reservedB T i from rfl)
  have hlt := h.lt
  have hsz := h.size
  have hi0 : (0 : Int) ≤ (i : Int) := by omega
  have hi1 : (i : Int) < (T.length : Int) := by omega
  clear h
  generalize rd reservedB T (f + 1) .unit lv i = o at hres hne ⊢
  generalize hB : w.heap.size = B at *
  replace hsum := Lib.hid hsum
  replace hcond := Lib.hid hcond
  have hA1 := hA.drew
  have hs := hA1.here
  unfold Here at hs
  by_cases hk : (tk T i).kind = 1
  · have hkb : ((tk T i).kind == 1) = true := by rw [beq_iff_eq]; exact hk
    replace hres := Lib.hid (hres.out.trans (if_pos hk))
    replace hk := Lib.hid hk
    clear hsum hcond
    go_enter Tryz.func188, Tryz.ntmps188
    go_wp2_with fail
    go_region_held2 (fun W => W.cell? ⟨pb, 0, none⟩ = some (.slice (some ⟨tb, 0, none⟩) T.length c) ∧ W.cell? ⟨pb, 1, none⟩ = some (.int .i64 i) ∧
      W.cell? ⟨tb, i * 3, none⟩ = some (.int .i64 (tk T i).kind) ∧ W.cell? ⟨tb, i * 3 + 1, none⟩ = some (.string ⟨(tk T i).text.toArray⟩) ∧ W.cell? ⟨tb, i * 3 + 2, none⟩ = some (.int .i64 (tk T i).pos)) (with_reducible exact hs) (fail)
    go_wp2_with fail
    refine hA1.cRdr (hres.out.trans (Out.bind_ok _)) hne (fun _ => pnumber_any pb tb c i lv T _ hA1.ps) (fun _ _ h => ⟨rfl, h⟩) ?_
    intro kd tx n a kids j g m cp w4 hres4 hA4
    replace hres4 := Lib.hid hres4
    clear hA hA1 hs
    have hsb := hA4.blk
    have hAz := hA4.setSyn (.int .i64 kd) (.string ⟨List.toArray (tx)⟩) (.int .i64 n) (.int .i64 a) (.slice g m cp)
    obtain ⟨⟨⟨s0, s1, s2, s3, s4⟩, _⟩, _, _⟩ := hAz.c5
    have hout := Lib.hid (hAz.out (k := kd) (tx := tx) (n := n) (a := a) (List.mem_cons_self ..))
    clear hAz
    go_wp21
    exact bodyPost_ret (v := .agg #[.int .i64 kd, .string ⟨List.toArray (tx)⟩, .int .i64 n, .int .i64 a, .slice g m cp]) (by simp [results, Tryz.results188, go_sem, s0, s1, s2, s3, s4]) rfl (hres4.out ▸ hout.out)
  have hkb : ((tk T i).kind == 1) = false := by rw [beq_eq_false_iff_ne]; exact hk
  replace hres := Lib.hid (hres.out.trans (if_neg hk))
  replace hk := Lib.hid hk
  go_enter Tryz.func188, Tryz.ntmps188
  go_wp2_with fail
  go_region_held2 (fun W => W.cell? ⟨pb, 0, none⟩ = some (.slice (some ⟨tb, 0, none⟩) T.length c) ∧ W.cell? ⟨pb, 1, none⟩ = some (.int .i64 i) ∧
      W.cell? ⟨tb, i * 3, none⟩ = some (.int .i64 (tk T i).kind) ∧ W.cell? ⟨tb, i * 3 + 1, none⟩ = some (.string ⟨(tk T i).text.toArray⟩) ∧ W.cell? ⟨tb, i * 3 + 2, none⟩ = some (.int .i64 (tk T i).pos)) (with_reducible exact hs) (fail)
  rename_i hH; clear hH
  clear hA hs
  generalize World.drew _ = w1 at hA1 ⊢
  have hA := hA1
  clear hA1
  go_wp2_with fail
  refine hA.cIs [[105, 110], [111, 117, 116]] (by simp) rfl rfl (by simp) ?_ ?_
  rotate_left
  · intro hb w2 hA2
    have hres2 := Lib.hid (hres.out.trans (if_pos hb))
    clear hb
    go_wp2_with fail
    refine hA2.cNext ?_
    intro w3 hA3
    clear hA2
    go_wp2_with fail
    refine hA3.cArgs [161] [rd reservedB T f .sum] rfl (by rfl) (by simp) hl rfl (by decide) (by intro f hf args w; rw [List.mem_singleton.1 hf]; rfl) (rds1 hsum.out) hne hres2.out (fun _ _ h => ⟨rfl, h⟩) ?_
    intro kd tx n a kids j g m cp w4 hres4 hA4
    replace hres4 := Lib.hid hres4
    clear hA3
    have hsb := hA4.blk
    have hAz := hA4.setSyn (.int .i64 kd) (.string ⟨List.toArray (tx)⟩) (.int .i64 n) (.int .i64 a) (.slice g m cp)
    obtain ⟨⟨⟨s0, s1, s2, s3, s4⟩, _⟩, _, _⟩ := hAz.c5
    have hout := Lib.hid (hAz.out (k := kd) (tx := tx) (n := n) (a := a) (List.mem_cons_self ..))
    clear hAz
    go_wp21
    exact bodyPost_ret (v := .agg #[.int .i64 kd, .string ⟨List.toArray (tx)⟩, .int .i64 n, .int .i64 a, .slice g m cp]) (by simp [results, Tryz.results188, go_sem, s0, s1, s2, s3, s4]) rfl (hres4.out ▸ hout.out)
  intro hb w2 hA2
  replace hres := Lib.hid (hres.out.trans (if_neg (by rw [hb]; decide)))
  clear hb hA
  go_wp2_with fail
  have hA := hA2
  clear hA2
  refine hA.cIs [[104, 101, 97, 114, 115]] (by simp) rfl rfl (by simp) ?_ ?_
  rotate_left
  · intro hb w2 hA2
    have hres2 := Lib.hid (hres.out.trans (if_pos hb))
    clear hb
    go_wp2_with fail
    refine hA2.cNext ?_
    intro w3 hA3
    clear hA2
    go_wp2_with fail
    refine hA3.cArgs [161, 161] [rd reservedB T f .sum, rd reservedB T f .sum] rfl (by rfl) (by simp) hl rfl (by decide) (by intro f hf args w; simp only [List.mem_cons, List.not_mem_nil, or_false] at hf; rcases hf with rfl | rfl <;> rfl) (rds2 hsum.out hsum.out) hne hres2.out (fun _ _ h => ⟨rfl, h⟩) ?_
    intro kd tx n a kids j g m cp w4 hres4 hA4
    replace hres4 := Lib.hid hres4
    clear hA3
    have hsb := hA4.blk
    have hAz := hA4.setSyn (.int .i64 kd) (.string ⟨List.toArray (tx)⟩) (.int .i64 n) (.int .i64 a) (.slice g m cp)
    obtain ⟨⟨⟨s0, s1, s2, s3, s4⟩, _⟩, _, _⟩ := hAz.c5
    have hout := Lib.hid (hAz.out (k := kd) (tx := tx) (n := n) (a := a) (List.mem_cons_self ..))
    clear hAz
    go_wp21
    exact bodyPost_ret (v := .agg #[.int .i64 kd, .string ⟨List.toArray (tx)⟩, .int .i64 n, .int .i64 a, .slice g m cp]) (by simp [results, Tryz.results188, go_sem, s0, s1, s2, s3, s4]) rfl (hres4.out ▸ hout.out)
  intro hb w2 hA2
  replace hres := Lib.hid (hres.out.trans (if_neg (by rw [hb]; decide)))
  clear hb hA
  go_wp2_with fail
  have hA := hA2
  clear hA2
  refine hA.cIs [[99, 111, 117, 110, 116]] (by simp) rfl rfl (by simp) ?_ ?_
  rotate_left
  · intro hb w2 hA2
    have hres2 := Lib.hid (hres.out.trans (if_pos hb))
    clear hb hA
    go_wp2_with fail
    refine hA2.cNext ?_
    intro w3 hA3
    clear hA2
    have hA4 := hA3.alloc [.int .i64 (tk T i).kind, .string ⟨(tk T i).text.toArray⟩, .int .i64 (tk T i).pos] 45
    have hMB : B ≠ w3.heap.size := fun e => (List.nodup_cons.1 hA4.nd).1 (by simp [e])
    go_wp2_with fail
    generalize hw4 : w3.alloc _ = w4 at hA4 ⊢
    clear hw4
    generalize w3.heap.size = M at hA4 hMB ⊢
    clear hA3
    refine hA4.cRdr hres2.out hne (fun _ => pname_any pb tb c _ lv T _ hA4.ps) (fun _ _ h => ⟨rfl, h⟩) ?_
    intro kn txn nn an kidsn jn gn mn cpn w5 hres5 hA5
    replace hres5 := Lib.hid hres5
    clear hA4 hres2
    have hA6 := hA5.alloc [.int .i64 kn, .string ⟨txn.toArray⟩, .int .i64 nn, .int .i64 an, .slice gn mn cpn] 24
    have hNB : B ≠ w5.heap.size := fun e => (List.nodup_cons.1 hA6.nd).1 (by simp [e])
    go_wp2_with fail
    generalize hw6 : w5.alloc _ = w6 at hA6 ⊢
    clear hw6
    generalize w5.heap.size = N at hA6 hNB ⊢
    clear hA5
    have hA7 := hA6.drew
    have s7 := And.intro hA7.swap.c3.1.1.2 hA7.c5.1.1
    have hcon := fun hn => pparens_any pb pb tb c jn lv T w6.drew Tru 35 #[.pointer (some ⟨pb, 0, none⟩)] #[] (rd reservedB T f .cond) (fun _ _ => rfl) hA7.ps hA7.ps.pos (by omega) (tru_stable _ _) hn (fun hd W i hp ho hn => hcond.out (lv + 1) (by omega) W i hp hn)
    have aS : ∀ W' : World, ∀ o, M < W'.heap.size → N < W'.heap.size → ((W'.cell? ⟨M, 1, none⟩ = some (.string ⟨(tk T i).text.toArray⟩) ∧ W'.cell? ⟨M, 2, none⟩ = some (.int .i64 (tk T i).pos)) ∧ W'.cell? ⟨N, 0, none⟩ = some (.int .i64 kn) ∧ W'.cell? ⟨N, 1, none⟩ = some (.string ⟨txn.toArray⟩) ∧ W'.cell? ⟨N, 2, none⟩ = some (.int .i64 nn) ∧ W'.cell? ⟨N, 3, none⟩ = some (.int .i64 an) ∧ W'.cell? ⟨N, 4, none⟩ = some (.slice gn mn cpn)) →
        ((W'.alloc o).cell? ⟨M, 1, none⟩ = some (.string ⟨(tk T i).text.toArray⟩) ∧ (W'.alloc o).cell? ⟨M, 2, none⟩ = some (.int .i64 (tk T i).pos)) ∧ (W'.alloc o).cell? ⟨N, 0, none⟩ = some (.int .i64 kn) ∧ (W'.alloc o).cell? ⟨N, 1, none⟩ = some (.string ⟨txn.toArray⟩) ∧ (W'.alloc o).cell? ⟨N, 2, none⟩ = some (.int .i64 nn) ∧ (W'.alloc o).cell? ⟨N, 3, none⟩ = some (.int .i64 an) ∧ (W'.alloc o).cell? ⟨N, 4, none⟩ = some (.slice gn mn cpn) := fun W' o hM hN h => by
      simp only [cell_alloc_lt hM, cell_alloc_lt hN]; exact h
    have aY : ∀ W' : World, ∀ v0 v1 v2 v3 v4, ((W'.cell? ⟨M, 1, none⟩ = some (.string ⟨(tk T i).text.toArray⟩) ∧ W'.cell? ⟨M, 2, none⟩ = some (.int .i64 (tk T i).pos)) ∧ W'.cell? ⟨N, 0, none⟩ = some (.int .i64 kn) ∧ W'.cell? ⟨N, 1, none⟩ = some (.string ⟨txn.toArray⟩) ∧ W'.cell? ⟨N, 2, none⟩ = some (.int .i64 nn) ∧ W'.cell? ⟨N, 3, none⟩ = some (.int .i64 an) ∧ W'.cell? ⟨N, 4, none⟩ = some (.slice gn mn cpn)) →
        ((setSyn W' B v0 v1 v2 v3 v4).cell? ⟨M, 1, none⟩ = some (.string ⟨(tk T i).text.toArray⟩) ∧ (setSyn W' B v0 v1 v2 v3 v4).cell? ⟨M, 2, none⟩ = some (.int .i64 (tk T i).pos)) ∧ (setSyn W' B v0 v1 v2 v3 v4).cell? ⟨N, 0, none⟩ = some (.int .i64 kn) ∧ (setSyn W' B v0 v1 v2 v3 v4).cell? ⟨N, 1, none⟩ = some (.string ⟨txn.toArray⟩) ∧ (setSyn W' B v0 v1 v2 v3 v4).cell? ⟨N, 2, none⟩ = some (.int .i64 nn) ∧ (setSyn W' B v0 v1 v2 v3 v4).cell? ⟨N, 3, none⟩ = some (.int .i64 an) ∧ (setSyn W' B v0 v1 v2 v3 v4).cell? ⟨N, 4, none⟩ = some (.slice gn mn cpn) := fun W' v0 v1 v2 v3 v4 h => by
      simp only [cell_setSyn_ne hMB.symm, cell_setSyn_ne hNB.symm]; exact h
    replace aS := Lib.hid aS
    replace aY := Lib.hid aY
    go_region_held2 (fun W' => (W'.cell? ⟨M, 1, none⟩ = some (.string ⟨(tk T i).text.toArray⟩) ∧ W'.cell? ⟨M, 2, none⟩ = some (.int .i64 (tk T i).pos)) ∧ W'.cell? ⟨N, 0, none⟩ = some (.int .i64 kn) ∧ W'.cell? ⟨N, 1, none⟩ = some (.string ⟨txn.toArray⟩) ∧ W'.cell? ⟨N, 2, none⟩ = some (.int .i64 nn) ∧ W'.cell? ⟨N, 3, none⟩ = some (.int .i64 an) ∧ W'.cell? ⟨N, 4, none⟩ = some (.slice gn mn cpn))
      (with_reducible first | exact s7 | exact s8 | exact aS.out _ _ lM lN s8 | exact aY.out _ _ _ _ _ _ (aS.out _ _ lM lN s8))
      (first | (go_at_call 190; (with_reducible refine hA7.cRdr hres5.out hne hcon ?_ ?_); exact fun _ _ h => ⟨rfl, h⟩; intro k2 tx2 n2 a2 kids2 j2 g2 m2 cp2 w8 hres8 hA8; replace hres8 := Lib.hid hres8; have s8 := And.intro hA8.swap.c3.1.1.2 hA8.c5.1.1; have lM := hA8.swap.c3.2; have lN := hA8.c5.2.1; have hsb := (hA8.perm (List.Perm.swap _ _ _)).drop.swap.blk))
    rename_i hH; clear hH
    have hAz := (hA8.slice2 (k := kn) (n := nn) (a := an) (tx := txn) (k' := k2) (n' := n2) (a' := a2) (tx' := tx2) (List.mem_cons_of_mem _ (List.mem_cons_self ..)) (List.mem_cons_self ..)).drop.swap.setSyn (.int .i64 13) (.string ⟨(tk T i).text.toArray⟩) (.int .i64 0) (.int .i64 (tk T i).pos) (.slice (some ⟨w8.heap.size, 0, none⟩) 2 2)
    generalize setSyn (World.alloc w8 _) _ _ _ _ _ _ = w9 at hAz ⊢
    obtain ⟨⟨⟨r0, r1, r2, r3, r4⟩, _⟩, _, _⟩ := hAz.c5
    have hout := Lib.hid (hAz.out (k := 13) (tx := (tk T i).text) (n := 0) (a := (tk T i).pos) (List.mem_cons_self ..))
    clear hAz hA8 s8 lM lN hsb s7 hA7 hA6 hcon aS aY hsum hcond
    go_wp21
    exact bodyPost_ret (v := .agg #[.int .i64 13, .string ⟨(tk T i).text.toArray⟩, .int .i64 0, .int .i64 (tk T i).pos, .slice (some ⟨w8.heap.size, 0, none⟩) 2 2]) (by simp [results, Tryz.results188, go_sem, r0, r1, r2, r3, r4]) rfl (hres8.out ▸ hout.out)
  intro hb w2 hA2
  replace hres := Lib.hid (hres.out.trans (if_neg (by rw [hb]; decide)))
  clear hb hA
  go_wp2_with fail
  have hA := hA2
  clear hA2
  refine hA.cIs [[40]] (by simp) rfl rfl (by simp) ?_ ?_
  rotate_left
  · intro hb w2 hA2
    have hres2 := Lib.hid (hres.out.trans (if_pos hb))
    clear hb
    go_wp2_with fail
    refine hA2.cRdr (hres2.out.trans (Out.bind_ok _)) hne (fun hn => pparens_any pb pb tb c i lv T _ Tru 35 #[.pointer (some ⟨pb, 0, none⟩)] #[] (rd reservedB T f .cond) (fun _ _ => rfl) hA2.ps hA2.ps.pos (by omega) (tru_stable _ _) hn (fun hd W i hp ho hn => hcond.out (lv + 1) (by omega) W i hp hn)) (fun _ _ h => ⟨rfl, h⟩) ?_
    intro kd tx n a kids j g m cp w4 hres4 hA4
    replace hres4 := Lib.hid hres4
    clear hA2
    have hsb := hA4.blk
    have hAz := hA4.setSyn (.int .i64 kd) (.string ⟨List.toArray (tx)⟩) (.int .i64 n) (.int .i64 a) (.slice g m cp)
    obtain ⟨⟨⟨s0, s1, s2, s3, s4⟩, _⟩, _, _⟩ := hAz.c5
    have hout := Lib.hid (hAz.out (k := kd) (tx := tx) (n := n) (a := a) (List.mem_cons_self ..))
    clear hAz
    go_wp21
    exact bodyPost_ret (v := .agg #[.int .i64 kd, .string ⟨List.toArray (tx)⟩, .int .i64 n, .int .i64 a, .slice g m cp]) (by simp [results, Tryz.results188, go_sem, s0, s1, s2, s3, s4]) rfl (hres4.out ▸ hout.out)
  intro hb w2 hA2
  replace hres := Lib.hid (hres.out.trans (if_neg (by rw [hb]; decide)))
  clear hb hA
  go_wp2_with fail
  have hA := hA2
  clear hA2
  refine hA.cRdr (hres.out.trans (Out.bind_ok _)) hne (fun _ => pname_any pb tb c i lv T _ hA.ps) (fun _ _ h => ⟨rfl, h⟩) ?_
  intro kd tx n a kids j g m cp w4 hres4 hA4
  replace hres4 := Lib.hid hres4
  clear hA
  have hsb := hA4.blk
  have hAz := hA4.setSyn (.int .i64 kd) (.string ⟨List.toArray (tx)⟩) (.int .i64 n) (.int .i64 a) (.slice g m cp)
  obtain ⟨⟨⟨s0, s1, s2, s3, s4⟩, _⟩, _, _⟩ := hAz.c5
  have hout := Lib.hid (hAz.out (k := kd) (tx := tx) (n := n) (a := a) (List.mem_cons_self ..))
  clear hAz
  go_wp21
  exact bodyPost_ret (v := .agg #[.int .i64 kd, .string ⟨List.toArray (tx)⟩, .int .i64 n, .int .i64 a, .slice g m cp]) (by simp [results, Tryz.results188, go_sem, s0, s1, s2, s3, s4]) rfl (hres4.out ▸ hout.out)
end Go.Proofs.YtplbfmcgddnkeaaGreatDoor
end
