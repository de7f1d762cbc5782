/- Joined: RpF. -/
import Derived.Test.YtplbfmcgddnkeaaGreatDoorS36
set_option linter.unusedVariables false
set_option linter.unusedSimpArgs false
section
set_option maxHeartbeats 1000000
set_option maxRecDepth 100000
namespace Go.Proofs.YtplbfmcgddnkeaaGreatDoor
open Go.RowKit
attribute [local go_sem ↓] Go.wp_at_zero Go.wp_at_succ
abbrev strs (ws : List (List UInt8)) : List Value := ws.map fun l => Value.string ⟨l.toArray⟩
def RLeftInv (pb tb c B L wb : Nat) (T : List Tok) (r : MRd) (ops : List (List UInt8)) (w : World) (o : Syn × St) (g : Nat) (wr : World) : Prop :=
  ∃ k tx n a kids s ka kn kc, AtR pb tb c T w [(L, [.int .i64 k, .string ⟨List.toArray tx⟩, .int .i64 n, .int .i64 a, .slice ka kn kc], 24), (wb, strs ops, 9), (B, z5, 24)] [(kids, .slice ka kn kc)] norow s wr ∧
    Lv s ∧ mLeftLoop T r ops g (.mk k tx n a kids) s = some o
theorem rleft_0 (pb tb c : Nat) (T : List Tok) (s : St) (w : World) (r : MRd) (o : Syn × St) (h : PR pb tb c T s w) (hlv : Lv s) (hop : RdM pb tb c T 139 #[.pointer (some ⟨pb, 0, none⟩), .int .i64 0] r)
    (hres : mLeft T r [kOr] s = some o) : Calls Tryz.prog 88 #[.pointer (some ⟨pb, 0, none⟩), .int .i64 0] w (ROut pb tb c T w o.1 o.2) := by
  have hA1 := (AtR.begin h).alloc z5 24
  obtain ⟨d0, d1, d2, d3, d4⟩ := h.cells
  have f0 := h.frozen
  have hpos := h.pos
  replace hop := Lib.hid hop
  clear h
  by_cases h0 : s.er = 0
  · have hb : (s.er != 0) = false := by rw [bne_eq_false_iff_eq]; exact h0
    replace hres := Lib.hid (show (r s).bind (fun p => mLeftLoop T r [kOr] (T.length + 2) p.1 p.2) = some o by unfold mLeft at hres; rwa [if_neg (fun k => k h0)] at hres)
    replace h0 := Lib.hid h0
    go_enter Tryz.func88, Tryz.ntmps88
    go_upto_region 8 with (fail)
    have hA2' := (hA1).alloc (strs [kOr]) 9
    simp only [World.size_alloc] at hA2'
    generalize hw2 : World.alloc (World.alloc w _) _ = w2 at ⊢
    have hA2 : AtR pb tb c T w [(w.heap.size + 1, strs [kOr], 9), (w.heap.size, z5, 24)] [] norow s w2 := by rw [← hw2]; exact hA2'
    clear hA2' hw2
    generalize w.heap.size + 1 = wb at hA2 ⊢
    generalize w.heap.size = B at hA2 ⊢
    clear d0 d1 d2 d3 d4 f0 hA1
    go_wp2_with fail
    refine hA2.cRd hlv hres.out hop.out ?_
    intro kd tx n a kids s1 g m cp w3 hres1 hlv1 hLv1 hA3
    go_upto_block 1 with (fail)
    have hA4 := hA3.alloc [.int .i64 kd, .string ⟨tx.toArray⟩, .int .i64 n, .int .i64 a, .slice g m cp] 24
    generalize World.alloc w3 _ = w4 at hA4 ⊢
    generalize w3.heap.size = L at hA4 ⊢
    have hinv := Lib.hid (show RLeftInv pb tb c B L wb T r [kOr] w o (T.length + 2) w4 from ⟨kd, tx, n, a, kids, s1, g, m, cp, hA4, hLv1, hres1⟩)
    clear hA2 hA3 hA4 hres hres1
    go_loopg [7] (T.length + 2) (fun g _ wr => RLeftInv pb tb c B L wb T r [kOr] w o g wr)
    case atStart => exact hinv.out
    case round =>
      obtain ⟨k, tx, n, a, kids, s1, ka, kn, kc, hA, hLv, hres⟩ := hrel
      obtain ⟨g', rfl⟩ : ∃ g', gk = g' + 1 := by
        cases gk with
        | zero => cases hres
        | succ g' => exact ⟨g', rfl⟩
      replace hres := Lib.hid (show (if s1.er = 0 ∧ isW T [kOr] s1.i = true then (r (mTake T s1)).bind fun p => mLeftLoop T r [kOr] g' (binary (tk T s1.i).text 0 (.mk k tx n a kids) p.1) p.2 else some (.mk k tx n a kids, s1)) = some o from hres)
      clear hinv
      obtain ⟨d0, d1, d2, d3, d4⟩ := hA.ps.cells
      by_cases h1 : s1.er = 0
      · have hb1 : (s1.er == 0) = true := by rw [beq_iff_eq]; exact h1
        replace h1 := Lib.hid h1
        have hwt := Lib.hid (hA.wat (wb := wb) (ws := [kOr]) (List.mem_cons_of_mem _ (List.mem_cons_self ..)))
        go_wp2_with fail
        refine hA.cAmongW [kOr] hwt.out (by decide) rfl ?_ ?_
        · intro hi w5 hA5
          have hres3 := Lib.hid (Option.some.inj ((if_neg (fun k => by rw [hi] at k; cases k.2)).symm.trans hres.out))
          clear hA hwt d0 d1 d2 d3 d4
          have hA3 := (hA5.swap.drop).swap
          obtain ⟨⟨⟨r0, r1, r2, r3, r4⟩, hfz⟩, l3, _⟩ := hA5.c5
          have hsb := hA3.blk
          have hA4 := hA3.setSyn (.int .i64 k) (.string ⟨tx.toArray⟩) (.int .i64 n) (.int .i64 a) (.slice ka kn kc)
          obtain ⟨⟨⟨s0, s1', s2, s3, s4⟩, _⟩, _, _⟩ := hA4.c5
          have hout := Lib.hid (hA4.out (k := k) (tx := tx) (n := n) (a := a) (List.mem_cons_self ..))
          clear hA3 hA4
          go_upto_region 12 with (fail)
          go_wp21
          exact bodyPost_ret (v := .agg #[.int .i64 k, .string ⟨tx.toArray⟩, .int .i64 n, .int .i64 a, .slice ka kn kc]) (by simp [results, Tryz.results88, go_sem, s0, s1', s2, s3, s4]) rfl (hres3.out ▸ hout.out)
        · intro hi w5 hA5
          have hres3 := Lib.hid ((if_pos ⟨h1.out, hi⟩).symm.trans hres.out)
          clear hA hwt hres hi d0 d1 d2 d3 d4
          go_wp2_with fail
          refine hA5.cTake ?_
          intro w6 hA6
          go_upto_region 11 with (fail)
          have hA7 := hA6.drew
          obtain ⟨⟨⟨l0, l1, l2, l3, l4⟩, hfl⟩, ll, _⟩ := hA7.c5
          go_region_with (first
            | (go_at_call 93; refine hA8.cBin (List.mem_cons_of_mem _ (List.mem_cons_self ..)) (List.mem_cons_self ..) ?_; intro g9 m9 cp9 w9 hA9; have hsb9 := hA9.blk)
            | (refine hA7.cRd hLv.take hres3.out hop.out ?_; intro k8 tx8 n8 a8 kids8 s8 g8 m8 cp8 w8 hres8 hlv8 hLv8 hA8; obtain ⟨⟨⟨l0, l1, l2, l3, l4⟩, hfl⟩, ll, _⟩ := hA8.c5))
          all_goals
            have hA10 := (hA9.setSyn (.int .i64 11) (.string ⟨(tk T s1.i).text.toArray⟩) (.int .i64 0) (.int .i64 a) (.slice g9 m9 cp9)).weak (ts' := [([.mk k tx n a kids, .mk k8 tx8 n8 a8 kids8], .slice g9 m9 cp9)]) (fun x hx => by rw [List.mem_singleton.1 hx]; exact List.mem_cons_self ..)
            have hI := Lib.hid (show RLeftInv pb tb c B L wb T r [kOr] w o g' _ from ⟨11, _, 0, a, _, s8, g9, m9, cp9, hA10, hLv8, hres8⟩)
            clear hA5 hA6 hA7 hA8 hA9 hA10 hres3 hres8 hsb9
            go_wp2_with fail
            go_roundg g'
            case measure => omega
            case rel => exact hI.out
      · have hb1 : (s1.er == 0) = false := by rw [beq_eq_false_iff_ne]; exact h1
        have hres3 := Lib.hid (Option.some.inj ((if_neg (fun k => h1 k.1)).symm.trans hres.out))
        replace h1 := Lib.hid h1
        have hA3 := (hA.swap.drop).swap
        obtain ⟨⟨⟨r0, r1, r2, r3, r4⟩, hfz⟩, l3, _⟩ := hA.c5
        have hsb := hA3.blk
        have hA4 := hA3.setSyn (.int .i64 k) (.string ⟨tx.toArray⟩) (.int .i64 n) (.int .i64 a) (.slice ka kn kc)
        obtain ⟨⟨⟨s0, s1', s2, s3, s4⟩, _⟩, _, _⟩ := hA4.c5
        have hout := Lib.hid (hA4.out (k := k) (tx := tx) (n := n) (a := a) (List.mem_cons_self ..))
        clear hA3 hA4
        go_upto_region 12 with (fail)
        go_wp21
        exact bodyPost_ret (v := .agg #[.int .i64 k, .string ⟨tx.toArray⟩, .int .i64 n, .int .i64 a, .slice ka kn kc]) (by simp [results, Tryz.results88, go_sem, s0, s1', s2, s3, s4]) rfl (hres3.out ▸ hout.out)
  · have hb : (s.er != 0) = true := by rw [bne_iff_ne]; exact h0
    have hres3 := Lib.hid (Option.some.inj ((if_pos h0).symm.trans hres))
    replace h0 := Lib.hid h0
    have hout := Lib.hid (hA1.leaf.out (k := 0) (tx := []) (n := 0) (a := 0) (List.mem_cons_self ..))
    go_enter Tryz.func88, Tryz.ntmps88
    go_wp2_with fail
    exact bodyPost_ret (v := .agg #[.int .i64 0, .string ⟨#[]⟩, .int .i64 0, .int .i64 0, .slice none 0 0]) (by simp [results, Tryz.results88, go_sem]) rfl (hres3.out ▸ hout.out)
theorem rleft_4 (pb tb c : Nat) (T : List Tok) (s : St) (w : World) (r : MRd) (o : Syn × St) (h : PR pb tb c T s w) (hlv : Lv s) (hop : RdM pb tb c T 139 #[.pointer (some ⟨pb, 0, none⟩), .int .i64 4] r)
    (hres : mLeft T r [kOr] s = some o) : Calls Tryz.prog 88 #[.pointer (some ⟨pb, 0, none⟩), .int .i64 4] w (ROut pb tb c T w o.1 o.2) := by
  have hA1 := (AtR.begin h).alloc z5 24
  obtain ⟨d0, d1, d2, d3, d4⟩ := h.cells
  have f0 := h.frozen
  have hpos := h.pos
  replace hop := Lib.hid hop
  clear h
  by_cases h0 : s.er = 0
  · have hb : (s.er != 0) = false := by rw [bne_eq_false_iff_eq]; exact h0
    replace hres := Lib.hid (show (r s).bind (fun p => mLeftLoop T r [kOr] (T.length + 2) p.1 p.2) = some o by unfold mLeft at hres; rwa [if_neg (fun k => k h0)] at hres)
    replace h0 := Lib.hid h0
    go_enter Tryz.func88, Tryz.ntmps88
    go_upto_region 8 with (fail)
    have hA2' := (hA1).alloc (strs [kOr]) 9
    simp only [World.size_alloc] at hA2'
    generalize hw2 : World.alloc (World.alloc w _) _ = w2 at ⊢
    have hA2 : AtR pb tb c T w [(w.heap.size + 1, strs [kOr], 9), (w.heap.size, z5, 24)] [] norow s w2 := by rw [← hw2]; exact hA2'
    clear hA2' hw2
    generalize w.heap.size + 1 = wb at hA2 ⊢
    generalize w.heap.size = B at hA2 ⊢
    clear d0 d1 d2 d3 d4 f0 hA1
    go_wp2_with fail
    refine hA2.cRd hlv hres.out hop.out ?_
    intro kd tx n a kids s1 g m cp w3 hres1 hlv1 hLv1 hA3
    go_upto_block 1 with (fail)
    have hA4 := hA3.alloc [.int .i64 kd, .string ⟨tx.toArray⟩, .int .i64 n, .int .i64 a, .slice g m cp] 24
    generalize World.alloc w3 _ = w4 at hA4 ⊢
    generalize w3.heap.size = L at hA4 ⊢
    have hinv := Lib.hid (show RLeftInv pb tb c B L wb T r [kOr] w o (T.length + 2) w4 from ⟨kd, tx, n, a, kids, s1, g, m, cp, hA4, hLv1, hres1⟩)
    clear hA2 hA3 hA4 hres hres1
    go_loopg [7] (T.length + 2) (fun g _ wr => RLeftInv pb tb c B L wb T r [kOr] w o g wr)
    case atStart => exact hinv.out
    case round =>
      obtain ⟨k, tx, n, a, kids, s1, ka, kn, kc, hA, hLv, hres⟩ := hrel
      obtain ⟨g', rfl⟩ : ∃ g', gk = g' + 1 := by
        cases gk with
        | zero => cases hres
        | succ g' => exact ⟨g', rfl⟩
      replace hres := Lib.hid (show (if s1.er = 0 ∧ isW T [kOr] s1.i = true then (r (mTake T s1)).bind fun p => mLeftLoop T r [kOr] g' (binary (tk T s1.i).text 0 (.mk k tx n a kids) p.1) p.2 else some (.mk k tx n a kids, s1)) = some o from hres)
      clear hinv
      obtain ⟨d0, d1, d2, d3, d4⟩ := hA.ps.cells
      by_cases h1 : s1.er = 0
      · have hb1 : (s1.er == 0) = true := by rw [beq_iff_eq]; exact h1
        replace h1 := Lib.hid h1
        have hwt := Lib.hid (hA.wat (wb := wb) (ws := [kOr]) (List.mem_cons_of_mem _ (List.mem_cons_self ..)))
        go_wp2_with fail
        refine hA.cAmongW [kOr] hwt.out (by decide) rfl ?_ ?_
        · intro hi w5 hA5
          have hres3 := Lib.hid (Option.some.inj ((if_neg (fun k => by rw [hi] at k; cases k.2)).symm.trans hres.out))
          clear hA hwt d0 d1 d2 d3 d4
          have hA3 := (hA5.swap.drop).swap
          obtain ⟨⟨⟨r0, r1, r2, r3, r4⟩, hfz⟩, l3, _⟩ := hA5.c5
          have hsb := hA3.blk
          have hA4 := hA3.setSyn (.int .i64 k) (.string ⟨tx.toArray⟩) (.int .i64 n) (.int .i64 a) (.slice ka kn kc)
          obtain ⟨⟨⟨s0, s1', s2, s3, s4⟩, _⟩, _, _⟩ := hA4.c5
          have hout := Lib.hid (hA4.out (k := k) (tx := tx) (n := n) (a := a) (List.mem_cons_self ..))
          clear hA3 hA4
          go_upto_region 12 with (fail)
          go_wp21
          exact bodyPost_ret (v := .agg #[.int .i64 k, .string ⟨tx.toArray⟩, .int .i64 n, .int .i64 a, .slice ka kn kc]) (by simp [results, Tryz.results88, go_sem, s0, s1', s2, s3, s4]) rfl (hres3.out ▸ hout.out)
        · intro hi w5 hA5
          have hres3 := Lib.hid ((if_pos ⟨h1.out, hi⟩).symm.trans hres.out)
          clear hA hwt hres hi d0 d1 d2 d3 d4
          go_wp2_with fail
          refine hA5.cTake ?_
          intro w6 hA6
          go_upto_region 11 with (fail)
          have hA7 := hA6.drew
          obtain ⟨⟨⟨l0, l1, l2, l3, l4⟩, hfl⟩, ll, _⟩ := hA7.c5
          go_region_with (first
            | (go_at_call 93; refine hA8.cBin (List.mem_cons_of_mem _ (List.mem_cons_self ..)) (List.mem_cons_self ..) ?_; intro g9 m9 cp9 w9 hA9; have hsb9 := hA9.blk)
            | (refine hA7.cRd hLv.take hres3.out hop.out ?_; intro k8 tx8 n8 a8 kids8 s8 g8 m8 cp8 w8 hres8 hlv8 hLv8 hA8; obtain ⟨⟨⟨l0, l1, l2, l3, l4⟩, hfl⟩, ll, _⟩ := hA8.c5))
          all_goals
            have hA10 := (hA9.setSyn (.int .i64 11) (.string ⟨(tk T s1.i).text.toArray⟩) (.int .i64 0) (.int .i64 a) (.slice g9 m9 cp9)).weak (ts' := [([.mk k tx n a kids, .mk k8 tx8 n8 a8 kids8], .slice g9 m9 cp9)]) (fun x hx => by rw [List.mem_singleton.1 hx]; exact List.mem_cons_self ..)
            have hI := Lib.hid (show RLeftInv pb tb c B L wb T r [kOr] w o g' _ from ⟨11, _, 0, a, _, s8, g9, m9, cp9, hA10, hLv8, hres8⟩)
            clear hA5 hA6 hA7 hA8 hA9 hA10 hres3 hres8 hsb9
            go_wp2_with fail
            go_roundg g'
            case measure => omega
            case rel => exact hI.out
      · have hb1 : (s1.er == 0) = false := by rw [beq_eq_false_iff_ne]; exact h1
        have hres3 := Lib.hid (Option.some.inj ((if_neg (fun k => h1 k.1)).symm.trans hres.out))
        replace h1 := Lib.hid h1
        have hA3 := (hA.swap.drop).swap
        obtain ⟨⟨⟨r0, r1, r2, r3, r4⟩, hfz⟩, l3, _⟩ := hA.c5
        have hsb := hA3.blk
        have hA4 := hA3.setSyn (.int .i64 k) (.string ⟨tx.toArray⟩) (.int .i64 n) (.int .i64 a) (.slice ka kn kc)
        obtain ⟨⟨⟨s0, s1', s2, s3, s4⟩, _⟩, _, _⟩ := hA4.c5
        have hout := Lib.hid (hA4.out (k := k) (tx := tx) (n := n) (a := a) (List.mem_cons_self ..))
        clear hA3 hA4
        go_upto_region 12 with (fail)
        go_wp21
        exact bodyPost_ret (v := .agg #[.int .i64 k, .string ⟨tx.toArray⟩, .int .i64 n, .int .i64 a, .slice ka kn kc]) (by simp [results, Tryz.results88, go_sem, s0, s1', s2, s3, s4]) rfl (hres3.out ▸ hout.out)
  · have hb : (s.er != 0) = true := by rw [bne_iff_ne]; exact h0
    have hres3 := Lib.hid (Option.some.inj ((if_pos h0).symm.trans hres))
    replace h0 := Lib.hid h0
    have hout := Lib.hid (hA1.leaf.out (k := 0) (tx := []) (n := 0) (a := 0) (List.mem_cons_self ..))
    go_enter Tryz.func88, Tryz.ntmps88
    go_wp2_with fail
    exact bodyPost_ret (v := .agg #[.int .i64 0, .string ⟨#[]⟩, .int .i64 0, .int .i64 0, .slice none 0 0]) (by simp [results, Tryz.results88, go_sem]) rfl (hres3.out ▸ hout.out)
theorem rleft_6 (pb tb c : Nat) (T : List Tok) (s : St) (w : World) (r : MRd) (o : Syn × St) (h : PR pb tb c T s w) (hlv : Lv s) (hop : RdM pb tb c T 139 #[.pointer (some ⟨pb, 0, none⟩), .int .i64 6] r)
    (hres : mLeft T r [kOr] s = some o) : Calls Tryz.prog 88 #[.pointer (some ⟨pb, 0, none⟩), .int .i64 6] w (ROut pb tb c T w o.1 o.2) := by
  have hA1 := (AtR.begin h).alloc z5 24
  obtain ⟨d0, d1, d2, d3, d4⟩ := h.cells
  have f0 := h.frozen
  have hpos := h.pos
  replace hop := Lib.hid hop
  clear h
  by_cases h0 : s.er = 0
  · have hb : (s.er != 0) = false := by rw [bne_eq_false_iff_eq]; exact h0
    replace hres := Lib.hid (show (r s).bind (fun p => mLeftLoop T r [kOr] (T.length + 2) p.1 p.2) = some o by unfold mLeft at hres; rwa [if_neg (fun k => k h0)] at hres)
    replace h0 := Lib.hid h0
    go_enter Tryz.func88, Tryz.ntmps88
    go_upto_region 8 with (fail)
    have hA2' := (hA1).alloc (strs [kOr]) 9
    simp only [World.size_alloc] at hA2'
    generalize hw2 : World.alloc (World.alloc w _) _ = w2 at ⊢
    have hA2 : AtR pb tb c T w [(w.heap.size + 1, strs [kOr], 9), (w.heap.size, z5, 24)] [] norow s w2 := by rw [← hw2]; exact hA2'
    clear hA2' hw2
    generalize w.heap.size + 1 = wb at hA2 ⊢
    generalize w.heap.size = B at hA2 ⊢
    clear d0 d1 d2 d3 d4 f0 hA1
    go_wp2_with fail
    refine hA2.cRd hlv hres.out hop.out ?_
    intro kd tx n a kids s1 g m cp w3 hres1 hlv1 hLv1 hA3
    go_upto_block 1 with (fail)
    have hA4 := hA3.alloc [.int .i64 kd, .string ⟨tx.toArray⟩, .int .i64 n, .int .i64 a, .slice g m cp] 24
    generalize World.alloc w3 _ = w4 at hA4 ⊢
    generalize w3.heap.size = L at hA4 ⊢
    have hinv := Lib.hid (show RLeftInv pb tb c B L wb T r [kOr] w o (T.length + 2) w4 from ⟨kd, tx, n, a, kids, s1, g, m, cp, hA4, hLv1, hres1⟩)
    clear hA2 hA3 hA4 hres hres1
    go_loopg [7] (T.length + 2) (fun g _ wr => RLeftInv pb tb c B L wb T r [kOr] w o g wr)
    case atStart => exact hinv.out
    case round =>
      obtain ⟨k, tx, n, a, kids, s1, ka, kn, kc, hA, hLv, hres⟩ := hrel
      obtain ⟨g', rfl⟩ : ∃ g', gk = g' + 1 := by
        cases gk with
        | zero => cases hres
        | succ g' => exact ⟨g', rfl⟩
      replace hres := Lib.hid (show (if s1.er = 0 ∧ isW T [kOr] s1.i = true then (r (mTake T s1)).bind fun p => mLeftLoop T r [kOr] g' (binary (tk T s1.i).text 0 (.mk k tx n a kids) p.1) p.2 else some (.mk k tx n a kids, s1)) = some o from hres)
      clear hinv
      obtain ⟨d0, d1, d2, d3, d4⟩ := hA.ps.cells
      by_cases h1 : s1.er = 0
      · have hb1 : (s1.er == 0) = true := by rw [beq_iff_eq]; exact h1
        replace h1 := Lib.hid h1
        have hwt := Lib.hid (hA.wat (wb := wb) (ws := [kOr]) (List.mem_cons_of_mem _ (List.mem_cons_self ..)))
        go_wp2_with fail
        refine hA.cAmongW [kOr] hwt.out (by decide) rfl ?_ ?_
        · intro hi w5 hA5
          have hres3 := Lib.hid (Option.some.inj ((if_neg (fun k => by rw [hi] at k; cases k.2)).symm.trans hres.out))
          clear hA hwt d0 d1 d2 d3 d4
          have hA3 := (hA5.swap.drop).swap
          obtain ⟨⟨⟨r0, r1, r2, r3, r4⟩, hfz⟩, l3, _⟩ := hA5.c5
          have hsb := hA3.blk
          have hA4 := hA3.setSyn (.int .i64 k) (.string ⟨tx.toArray⟩) (.int .i64 n) (.int .i64 a) (.slice ka kn kc)
          obtain ⟨⟨⟨s0, s1', s2, s3, s4⟩, _⟩, _, _⟩ := hA4.c5
          have hout := Lib.hid (hA4.out (k := k) (tx := tx) (n := n) (a := a) (List.mem_cons_self ..))
          clear hA3 hA4
          go_upto_region 12 with (fail)
          go_wp21
          exact bodyPost_ret (v := .agg #[.int .i64 k, .string ⟨tx.toArray⟩, .int .i64 n, .int .i64 a, .slice ka kn kc]) (by simp [results, Tryz.results88, go_sem, s0, s1', s2, s3, s4]) rfl (hres3.out ▸ hout.out)
        · intro hi w5 hA5
          have hres3 := Lib.hid ((if_pos ⟨h1.out, hi⟩).symm.trans hres.out)
          clear hA hwt hres hi d0 d1 d2 d3 d4
          go_wp2_with fail
          refine hA5.cTake ?_
          intro w6 hA6
          go_upto_region 11 with (fail)
          have hA7 := hA6.drew
          obtain ⟨⟨⟨l0, l1, l2, l3, l4⟩, hfl⟩, ll, _⟩ := hA7.c5
          go_region_with (first
            | (go_at_call 93; refine hA8.cBin (List.mem_cons_of_mem _ (List.mem_cons_self ..)) (List.mem_cons_self ..) ?_; intro g9 m9 cp9 w9 hA9; have hsb9 := hA9.blk)
            | (refine hA7.cRd hLv.take hres3.out hop.out ?_; intro k8 tx8 n8 a8 kids8 s8 g8 m8 cp8 w8 hres8 hlv8 hLv8 hA8; obtain ⟨⟨⟨l0, l1, l2, l3, l4⟩, hfl⟩, ll, _⟩ := hA8.c5))
          all_goals
            have hA10 := (hA9.setSyn (.int .i64 11) (.string ⟨(tk T s1.i).text.toArray⟩) (.int .i64 0) (.int .i64 a) (.slice g9 m9 cp9)).weak (ts' := [([.mk k tx n a kids, .mk k8 tx8 n8 a8 kids8], .slice g9 m9 cp9)]) (fun x hx => by rw [List.mem_singleton.1 hx]; exact List.mem_cons_self ..)
            have hI := Lib.hid (show RLeftInv pb tb c B L wb T r [kOr] w o g' _ from ⟨11, _, 0, a, _, s8, g9, m9, cp9, hA10, hLv8, hres8⟩)
            clear hA5 hA6 hA7 hA8 hA9 hA10 hres3 hres8 hsb9
            go_wp2_with fail
            go_roundg g'
            case measure => omega
            case rel => exact hI.out
      · have hb1 : (s1.er == 0) = false := by rw [beq_eq_false_iff_ne]; exact h1
        have hres3 := Lib.hid (Option.some.inj ((if_neg (fun k => h1 k.1)).symm.trans hres.out))
        replace h1 := Lib.hid h1
        have hA3 := (hA.swap.drop).swap
        obtain ⟨⟨⟨r0, r1, r2, r3, r4⟩, hfz⟩, l3, _⟩ := hA.c5
        have hsb := hA3.blk
        have hA4 := hA3.setSyn (.int .i64 k) (.string ⟨tx.toArray⟩) (.int .i64 n) (.int .i64 a) (.slice ka kn kc)
        obtain ⟨⟨⟨s0, s1', s2, s3, s4⟩, _⟩, _, _⟩ := hA4.c5
        have hout := Lib.hid (hA4.out (k := k) (tx := tx) (n := n) (a := a) (List.mem_cons_self ..))
        clear hA3 hA4
        go_upto_region 12 with (fail)
        go_wp21
        exact bodyPost_ret (v := .agg #[.int .i64 k, .string ⟨tx.toArray⟩, .int .i64 n, .int .i64 a, .slice ka kn kc]) (by simp [results, Tryz.results88, go_sem, s0, s1', s2, s3, s4]) rfl (hres3.out ▸ hout.out)
  · have hb : (s.er != 0) = true := by rw [bne_iff_ne]; exact h0
    have hres3 := Lib.hid (Option.some.inj ((if_pos h0).symm.trans hres))
    replace h0 := Lib.hid h0
    have hout := Lib.hid (hA1.leaf.out (k := 0) (tx := []) (n := 0) (a := 0) (List.mem_cons_self ..))
    go_enter Tryz.func88, Tryz.ntmps88
    go_wp2_with fail
    exact bodyPost_ret (v := .agg #[.int .i64 0, .string ⟨#[]⟩, .int .i64 0, .int .i64 0, .slice none 0 0]) (by simp [results, Tryz.results88, go_sem]) rfl (hres3.out ▸ hout.out)
theorem rleft_1 (pb tb c : Nat) (T : List Tok) (s : St) (w : World) (r : MRd) (o : Syn × St) (h : PR pb tb c T s w) (hlv : Lv s) (hop : RdM pb tb c T 139 #[.pointer (some ⟨pb, 0, none⟩), .int .i64 1] r)
    (hres : mLeft T r [kAnd] s = some o) : Calls Tryz.prog 88 #[.pointer (some ⟨pb, 0, none⟩), .int .i64 1] w (ROut pb tb c T w o.1 o.2) := by
  have hA1 := (AtR.begin h).alloc z5 24
  obtain ⟨d0, d1, d2, d3, d4⟩ := h.cells
  have f0 := h.frozen
  have hpos := h.pos
  replace hop := Lib.hid hop
  clear h
  by_cases h0 : s.er = 0
  · have hb : (s.er != 0) = false := by rw [bne_eq_false_iff_eq]; exact h0
    replace hres := Lib.hid (show (r s).bind (fun p => mLeftLoop T r [kAnd] (T.length + 2) p.1 p.2) = some o by unfold mLeft at hres; rwa [if_neg (fun k => k h0)] at hres)
    replace h0 := Lib.hid h0
    go_enter Tryz.func88, Tryz.ntmps88
    go_upto_region 8 with (fail)
    have hA2' := (hA1.junk (.cells #[.string ⟨#[111, 114]⟩] 9)).alloc (strs [kAnd]) 9
    simp only [World.size_alloc] at hA2'
    generalize hw2 : World.alloc (World.alloc (World.alloc w _) _) _ = w2 at ⊢
    have hA2 : AtR pb tb c T w [(w.heap.size + 1 + 1, strs [kAnd], 9), (w.heap.size, z5, 24)] [] norow s w2 := by rw [← hw2]; exact hA2'
    clear hA2' hw2
    generalize w.heap.size + 1 + 1 = wb at hA2 ⊢
    generalize w.heap.size = B at hA2 ⊢
    clear d0 d1 d2 d3 d4 f0 hA1
    go_wp2_with fail
    refine hA2.cRd hlv hres.out hop.out ?_
    intro kd tx n a kids s1 g m cp w3 hres1 hlv1 hLv1 hA3
    go_upto_block 1 with (fail)
    have hA4 := hA3.alloc [.int .i64 kd, .string ⟨tx.toArray⟩, .int .i64 n, .int .i64 a, .slice g m cp] 24
    generalize World.alloc w3 _ = w4 at hA4 ⊢
    generalize w3.heap.size = L at hA4 ⊢
    have hinv := Lib.hid (show RLeftInv pb tb c B L wb T r [kAnd] w o (T.length + 2) w4 from ⟨kd, tx, n, a, kids, s1, g, m, cp, hA4, hLv1, hres1⟩)
    clear hA2 hA3 hA4 hres hres1
    go_loopg [7] (T.length + 2) (fun g _ wr => RLeftInv pb tb c B L wb T r [kAnd] w o g wr)
    case atStart => exact hinv.out
    case round =>
      obtain ⟨k, tx, n, a, kids, s1, ka, kn, kc, hA, hLv, hres⟩ := hrel
      obtain ⟨g', rfl⟩ : ∃ g', gk = g' + 1 := by
        cases gk with
        | zero => cases hres
        | succ g' => exact ⟨g', rfl⟩
      replace hres := Lib.hid (show (if s1.er = 0 ∧ isW T [kAnd] s1.i = true then (r (mTake T s1)).bind fun p => mLeftLoop T r [kAnd] g' (binary (tk T s1.i).text 0 (.mk k tx n a kids) p.1) p.2 else some (.mk k tx n a kids, s1)) = some o from hres)
      clear hinv
      obtain ⟨d0, d1, d2, d3, d4⟩ := hA.ps.cells
      by_cases h1 : s1.er = 0
      · have hb1 : (s1.er == 0) = true := by rw [beq_iff_eq]; exact h1
        replace h1 := Lib.hid h1
        have hwt := Lib.hid (hA.wat (wb := wb) (ws := [kAnd]) (List.mem_cons_of_mem _ (List.mem_cons_self ..)))
        go_wp2_with fail
        refine hA.cAmongW [kAnd] hwt.out (by decide) rfl ?_ ?_
        · intro hi w5 hA5
          have hres3 := Lib.hid (Option.some.inj ((if_neg (fun k => by rw [hi] at k; cases k.2)).symm.trans hres.out))
          clear hA hwt d0 d1 d2 d3 d4
          have hA3 := (hA5.swap.drop).swap
          obtain ⟨⟨⟨r0, r1, r2, r3, r4⟩, hfz⟩, l3, _⟩ := hA5.c5
          have hsb := hA3.blk
          have hA4 := hA3.setSyn (.int .i64 k) (.string ⟨tx.toArray⟩) (.int .i64 n) (.int .i64 a) (.slice ka kn kc)
          obtain ⟨⟨⟨s0, s1', s2, s3, s4⟩, _⟩, _, _⟩ := hA4.c5
          have hout := Lib.hid (hA4.out (k := k) (tx := tx) (n := n) (a := a) (List.mem_cons_self ..))
          clear hA3 hA4
          go_upto_region 12 with (fail)
          go_wp21
          exact bodyPost_ret (v := .agg #[.int .i64 k, .string ⟨tx.toArray⟩, .int .i64 n, .int .i64 a, .slice ka kn kc]) (by simp [results, Tryz.results88, go_sem, s0, s1', s2, s3, s4]) rfl (hres3.out ▸ hout.out)
        · intro hi w5 hA5
          have hres3 := Lib.hid ((if_pos ⟨h1.out, hi⟩).symm.trans hres.out)
          clear hA hwt hres hi d0 d1 d2 d3 d4
          go_wp2_with fail
          refine hA5.cTake ?_
          intro w6 hA6
          go_upto_region 11 with (fail)
          have hA7 := hA6.drew
          obtain ⟨⟨⟨l0, l1, l2, l3, l4⟩, hfl⟩, ll, _⟩ := hA7.c5
          go_region_with (first
            | (go_at_call 93; refine hA8.cBin (List.mem_cons_of_mem _ (List.mem_cons_self ..)) (List.mem_cons_self ..) ?_; intro g9 m9 cp9 w9 hA9; have hsb9 := hA9.blk)
            | (refine hA7.cRd hLv.take hres3.out hop.out ?_; intro k8 tx8 n8 a8 kids8 s8 g8 m8 cp8 w8 hres8 hlv8 hLv8 hA8; obtain ⟨⟨⟨l0, l1, l2, l3, l4⟩, hfl⟩, ll, _⟩ := hA8.c5))
          all_goals
            have hA10 := (hA9.setSyn (.int .i64 11) (.string ⟨(tk T s1.i).text.toArray⟩) (.int .i64 0) (.int .i64 a) (.slice g9 m9 cp9)).weak (ts' := [([.mk k tx n a kids, .mk k8 tx8 n8 a8 kids8], .slice g9 m9 cp9)]) (fun x hx => by rw [List.mem_singleton.1 hx]; exact List.mem_cons_self ..)
            have hI := Lib.hid (show RLeftInv pb tb c B L wb T r [kAnd] w o g' _ from ⟨11, _, 0, a, _, s8, g9, m9, cp9, hA10, hLv8, hres8⟩)
            clear hA5 hA6 hA7 hA8 hA9 hA10 hres3 hres8 hsb9
            go_wp2_with fail
            go_roundg g'
            case measure => omega
            case rel => exact hI.out
      · have hb1 : (s1.er == 0) = false := by rw [beq_eq_false_iff_ne]; exact h1
        have hres3 := Lib.hid (Option.some.inj ((if_neg (fun k => h1 k.1)).symm.trans hres.out))
        replace h1 := Lib.hid h1
        have hA3 := (hA.swap.drop).swap
        obtain ⟨⟨⟨r0, r1, r2, r3, r4⟩, hfz⟩, l3, _⟩ := hA.c5
        have hsb := hA3.blk
        have hA4 := hA3.setSyn (.int .i64 k) (.string ⟨tx.toArray⟩) (.int .i64 n) (.int .i64 a) (.slice ka kn kc)
        obtain ⟨⟨⟨s0, s1', s2, s3, s4⟩, _⟩, _, _⟩ := hA4.c5
        have hout := Lib.hid (hA4.out (k := k) (tx := tx) (n := n) (a := a) (List.mem_cons_self ..))
        clear hA3 hA4
        go_upto_region 12 with (fail)
        go_wp21
        exact bodyPost_ret (v := .agg #[.int .i64 k, .string ⟨tx.toArray⟩, .int .i64 n, .int .i64 a, .slice ka kn kc]) (by simp [results, Tryz.results88, go_sem, s0, s1', s2, s3, s4]) rfl (hres3.out ▸ hout.out)
  · have hb : (s.er != 0) = true := by rw [bne_iff_ne]; exact h0
    have hres3 := Lib.hid (Option.some.inj ((if_pos h0).symm.trans hres))
    replace h0 := Lib.hid h0
    have hout := Lib.hid (hA1.leaf.out (k := 0) (tx := []) (n := 0) (a := 0) (List.mem_cons_self ..))
    go_enter Tryz.func88, Tryz.ntmps88
    go_wp2_with fail
    exact bodyPost_ret (v := .agg #[.int .i64 0, .string ⟨#[]⟩, .int .i64 0, .int .i64 0, .slice none 0 0]) (by simp [results, Tryz.results88, go_sem]) rfl (hres3.out ▸ hout.out)
theorem rleft_5 (pb tb c : Nat) (T : List Tok) (s : St) (w : World) (r : MRd) (o : Syn × St) (h : PR pb tb c T s w) (hlv : Lv s) (hop : RdM pb tb c T 139 #[.pointer (some ⟨pb, 0, none⟩), .int .i64 5] r)
    (hres : mLeft T r [kAnd] s = some o) : Calls Tryz.prog 88 #[.pointer (some ⟨pb, 0, none⟩), .int .i64 5] w (ROut pb tb c T w o.1 o.2) := by
  have hA1 := (AtR.begin h).alloc z5 24
  obtain ⟨d0, d1, d2, d3, d4⟩ := h.cells
  have f0 := h.frozen
  have hpos := h.pos
  replace hop := Lib.hid hop
  clear h
  by_cases h0 : s.er = 0
  · have hb : (s.er != 0) = false := by rw [bne_eq_false_iff_eq]; exact h0
    replace hres := Lib.hid (show (r s).bind (fun p => mLeftLoop T r [kAnd] (T.length + 2) p.1 p.2) = some o by unfold mLeft at hres; rwa [if_neg (fun k => k h0)] at hres)
    replace h0 := Lib.hid h0
    go_enter Tryz.func88, Tryz.ntmps88
    go_upto_region 8 with (fail)
    have hA2' := (hA1.junk (.cells #[.string ⟨#[111, 114]⟩] 9)).alloc (strs [kAnd]) 9
    simp only [World.size_alloc] at hA2'
    generalize hw2 : World.alloc (World.alloc (World.alloc w _) _) _ = w2 at ⊢
    have hA2 : AtR pb tb c T w [(w.heap.size + 1 + 1, strs [kAnd], 9), (w.heap.size, z5, 24)] [] norow s w2 := by rw [← hw2]; exact hA2'
    clear hA2' hw2
    generalize w.heap.size + 1 + 1 = wb at hA2 ⊢
    generalize w.heap.size = B at hA2 ⊢
    clear d0 d1 d2 d3 d4 f0 hA1
    go_wp2_with fail
    refine hA2.cRd hlv hres.out hop.out ?_
    intro kd tx n a kids s1 g m cp w3 hres1 hlv1 hLv1 hA3
    go_upto_block 1 with (fail)
    have hA4 := hA3.alloc [.int .i64 kd, .string ⟨tx.toArray⟩, .int .i64 n, .int .i64 a, .slice g m cp] 24
    generalize World.alloc w3 _ = w4 at hA4 ⊢
    generalize w3.heap.size = L at hA4 ⊢
    have hinv := Lib.hid (show RLeftInv pb tb c B L wb T r [kAnd] w o (T.length + 2) w4 from ⟨kd, tx, n, a, kids, s1, g, m, cp, hA4, hLv1, hres1⟩)
    clear hA2 hA3 hA4 hres hres1
    go_loopg [7] (T.length + 2) (fun g _ wr => RLeftInv pb tb c B L wb T r [kAnd] w o g wr)
    case atStart => exact hinv.out
    case round =>
      obtain ⟨k, tx, n, a, kids, s1, ka, kn, kc, hA, hLv, hres⟩ := hrel
      obtain ⟨g', rfl⟩ : ∃ g', gk = g' + 1 := by
        cases gk with
        | zero => cases hres
        | succ g' => exact ⟨g', rfl⟩
      replace hres := Lib.hid (show (if s1.er = 0 ∧ isW T [kAnd] s1.i = true then (r (mTake T s1)).bind fun p => mLeftLoop T r [kAnd] g' (binary (tk T s1.i).text 0 (.mk k tx n a kids) p.1) p.2 else some (.mk k tx n a kids, s1)) = some o from hres)
      clear hinv
      obtain ⟨d0, d1, d2, d3, d4⟩ := hA.ps.cells
      by_cases h1 : s1.er = 0
      · have hb1 : (s1.er == 0) = true := by rw [beq_iff_eq]; exact h1
        replace h1 := Lib.hid h1
        have hwt := Lib.hid (hA.wat (wb := wb) (ws := [kAnd]) (List.mem_cons_of_mem _ (List.mem_cons_self ..)))
        go_wp2_with fail
        refine hA.cAmongW [kAnd] hwt.out (by decide) rfl ?_ ?_
        · intro hi w5 hA5
          have hres3 := Lib.hid (Option.some.inj ((if_neg (fun k => by rw [hi] at k; cases k.2)).symm.trans hres.out))
          clear hA hwt d0 d1 d2 d3 d4
          have hA3 := (hA5.swap.drop).swap
          obtain ⟨⟨⟨r0, r1, r2, r3, r4⟩, hfz⟩, l3, _⟩ := hA5.c5
          have hsb := hA3.blk
          have hA4 := hA3.setSyn (.int .i64 k) (.string ⟨tx.toArray⟩) (.int .i64 n) (.int .i64 a) (.slice ka kn kc)
          obtain ⟨⟨⟨s0, s1', s2, s3, s4⟩, _⟩, _, _⟩ := hA4.c5
          have hout := Lib.hid (hA4.out (k := k) (tx := tx) (n := n) (a := a) (List.mem_cons_self ..))
          clear hA3 hA4
          go_upto_region 12 with (fail)
          go_wp21
          exact bodyPost_ret (v := .agg #[.int .i64 k, .string ⟨tx.toArray⟩, .int .i64 n, .int .i64 a, .slice ka kn kc]) (by simp [results, Tryz.results88, go_sem, s0, s1', s2, s3, s4]) rfl (hres3.out ▸ hout.out)
        · intro hi w5 hA5
          have hres3 := Lib.hid ((if_pos ⟨h1.out, hi⟩).symm.trans hres.out)
          clear hA hwt hres hi d0 d1 d2 d3 d4
          go_wp2_with fail
          refine hA5.cTake ?_
          intro w6 hA6
          go_upto_region 11 with (fail)
          have hA7 := hA6.drew
          obtain ⟨⟨⟨l0, l1, l2, l3, l4⟩, hfl⟩, ll, _⟩ := hA7.c5
          go_region_with (first
            | (go_at_call 93; refine hA8.cBin (List.mem_cons_of_mem _ (List.mem_cons_self ..)) (List.mem_cons_self ..) ?_; intro g9 m9 cp9 w9 hA9; have hsb9 := hA9.blk)
            | (refine hA7.cRd hLv.take hres3.out hop.out ?_; intro k8 tx8 n8 a8 kids8 s8 g8 m8 cp8 w8 hres8 hlv8 hLv8 hA8; obtain ⟨⟨⟨l0, l1, l2, l3, l4⟩, hfl⟩, ll, _⟩ := hA8.c5))
          all_goals
            have hA10 := (hA9.setSyn (.int .i64 11) (.string ⟨(tk T s1.i).text.toArray⟩) (.int .i64 0) (.int .i64 a) (.slice g9 m9 cp9)).weak (ts' := [([.mk k tx n a kids, .mk k8 tx8 n8 a8 kids8], .slice g9 m9 cp9)]) (fun x hx => by rw [List.mem_singleton.1 hx]; exact List.mem_cons_self ..)
            have hI := Lib.hid (show RLeftInv pb tb c B L wb T r [kAnd] w o g' _ from ⟨11, _, 0, a, _, s8, g9, m9, cp9, hA10, hLv8, hres8⟩)
            clear hA5 hA6 hA7 hA8 hA9 hA10 hres3 hres8 hsb9
            go_wp2_with fail
            go_roundg g'
            case measure => omega
            case rel => exact hI.out
      · have hb1 : (s1.er == 0) = false := by rw [beq_eq_false_iff_ne]; exact h1
        have hres3 := Lib.hid (Option.some.inj ((if_neg (fun k => h1 k.1)).symm.trans hres.out))
        replace h1 := Lib.hid h1
        have hA3 := (hA.swap.drop).swap
        obtain ⟨⟨⟨r0, r1, r2, r3, r4⟩, hfz⟩, l3, _⟩ := hA.c5
        have hsb := hA3.blk
        have hA4 := hA3.setSyn (.int .i64 k) (.string ⟨tx.toArray⟩) (.int .i64 n) (.int .i64 a) (.slice ka kn kc)
        obtain ⟨⟨⟨s0, s1', s2, s3, s4⟩, _⟩, _, _⟩ := hA4.c5
        have hout := Lib.hid (hA4.out (k := k) (tx := tx) (n := n) (a := a) (List.mem_cons_self ..))
        clear hA3 hA4
        go_upto_region 12 with (fail)
        go_wp21
        exact bodyPost_ret (v := .agg #[.int .i64 k, .string ⟨tx.toArray⟩, .int .i64 n, .int .i64 a, .slice ka kn kc]) (by simp [results, Tryz.results88, go_sem, s0, s1', s2, s3, s4]) rfl (hres3.out ▸ hout.out)
  · have hb : (s.er != 0) = true := by rw [bne_iff_ne]; exact h0
    have hres3 := Lib.hid (Option.some.inj ((if_pos h0).symm.trans hres))
    replace h0 := Lib.hid h0
    have hout := Lib.hid (hA1.leaf.out (k := 0) (tx := []) (n := 0) (a := 0) (List.mem_cons_self ..))
    go_enter Tryz.func88, Tryz.ntmps88
    go_wp2_with fail
    exact bodyPost_ret (v := .agg #[.int .i64 0, .string ⟨#[]⟩, .int .i64 0, .int .i64 0, .slice none 0 0]) (by simp [results, Tryz.results88, go_sem]) rfl (hres3.out ▸ hout.out)
theorem rleft_7 (pb tb c : Nat) (T : List Tok) (s : St) (w : World) (r : MRd) (o : Syn × St) (h : PR pb tb c T s w) (hlv : Lv s) (hop : RdM pb tb c T 139 #[.pointer (some ⟨pb, 0, none⟩), .int .i64 7] r)
    (hres : mLeft T r [kAnd] s = some o) : Calls Tryz.prog 88 #[.pointer (some ⟨pb, 0, none⟩), .int .i64 7] w (ROut pb tb c T w o.1 o.2) := by
  have hA1 := (AtR.begin h).alloc z5 24
  obtain ⟨d0, d1, d2, d3, d4⟩ := h.cells
  have f0 := h.frozen
  have hpos := h.pos
  replace hop := Lib.hid hop
  clear h
  by_cases h0 : s.er = 0
  · have hb : (s.er != 0) = false := by rw [bne_eq_false_iff_eq]; exact h0
    replace hres := Lib.hid (show (r s).bind (fun p => mLeftLoop T r [kAnd] (T.length + 2) p.1 p.2) = some o by unfold mLeft at hres; rwa [if_neg (fun k => k h0)] at hres)
    replace h0 := Lib.hid h0
    go_enter Tryz.func88, Tryz.ntmps88
    go_upto_region 8 with (fail)
    have hA2' := (hA1.junk (.cells #[.string ⟨#[111, 114]⟩] 9)).alloc (strs [kAnd]) 9
    simp only [World.size_alloc] at hA2'
    generalize hw2 : World.alloc (World.alloc (World.alloc w _) _) _ = w2 at ⊢
    have hA2 : AtR pb tb c T w [(w.heap.size + 1 + 1, strs [kAnd], 9), (w.heap.size, z5, 24)] [] norow s w2 := by rw [← hw2]; exact hA2'
    clear hA2' hw2
    generalize w.heap.size + 1 + 1 = wb at hA2 ⊢
    generalize w.heap.size = B at hA2 ⊢
    clear d0 d1 d2 d3 d4 f0 hA1
    go_wp2_with fail
    refine hA2.cRd hlv hres.out hop.out ?_
    intro kd tx n a kids s1 g m cp w3 hres1 hlv1 hLv1 hA3
    go_upto_block 1 with (fail)
    have hA4 := hA3.alloc [.int .i64 kd, .string ⟨tx.toArray⟩, .int .i64 n, .int .i64 a, .slice g m cp] 24
    generalize World.alloc w3 _ = w4 at hA4 ⊢
    generalize w3.heap.size = L at hA4 ⊢
    have hinv := Lib.hid (show RLeftInv pb tb c B L wb T r [kAnd] w o (T.length + 2) w4 from ⟨kd, tx, n, a, kids, s1, g, m, cp, hA4, hLv1, hres1⟩)
    clear hA2 hA3 hA4 hres hres1
    go_loopg [7] (T.length + 2) (fun g _ wr => RLeftInv pb tb c B L wb T r [kAnd] w o g wr)
    case atStart => exact hinv.out
    case round =>
      obtain ⟨k, tx, n, a, kids, s1, ka, kn, kc, hA, hLv, hres⟩ := hrel
      obtain ⟨g', rfl⟩ : ∃ g', gk = g' + 1 := by
        cases gk with
        | zero => cases hres
        | succ g' => exact ⟨g', rfl⟩
      replace hres := Lib.hid (show (if s1.er = 0 ∧ isW T [kAnd] s1.i = true then (r (mTake T s1)).bind fun p => mLeftLoop T r [kAnd] g' (binary (tk T s1.i).text 0 (.mk k tx n a kids) p.1) p.2 else some (.mk k tx n a kids, s1)) = some o from hres)
      clear hinv
      obtain ⟨d0, d1, d2, d3, d4⟩ := hA.ps.cells
      by_cases h1 : s1.er = 0
      · have hb1 : (s1.er == 0) = true := by rw [beq_iff_eq]; exact h1
        replace h1 := Lib.hid h1
        have hwt := Lib.hid (hA.wat (wb := wb) (ws := [kAnd]) (List.mem_cons_of_mem _ (List.mem_cons_self ..)))
        go_wp2_with fail
        refine hA.cAmongW [kAnd] hwt.out (by decide) rfl ?_ ?_
        · intro hi w5 hA5
          have hres3 := Lib.hid (Option.some.inj ((if_neg (fun k => by rw [hi] at k; cases k.2)).symm.trans hres.out))
          clear hA hwt d0 d1 d2 d3 d4
          have hA3 := (hA5.swap.drop).swap
          obtain ⟨⟨⟨r0, r1, r2, r3, r4⟩, hfz⟩, l3, _⟩ := hA5.c5
          have hsb := hA3.blk
          have hA4 := hA3.setSyn (.int .i64 k) (.string ⟨tx.toArray⟩) (.int .i64 n) (.int .i64 a) (.slice ka kn kc)
          obtain ⟨⟨⟨s0, s1', s2, s3, s4⟩, _⟩, _, _⟩ := hA4.c5
          have hout := Lib.hid (hA4.out (k := k) (tx := tx) (n := n) (a := a) (List.mem_cons_self ..))
          clear hA3 hA4
          go_upto_region 12 with (fail)
          go_wp21
          exact bodyPost_ret (v := .agg #[.int .i64 k, .string ⟨tx.toArray⟩, .int .i64 n, .int .i64 a, .slice ka kn kc]) (by simp [results, Tryz.results88, go_sem, s0, s1', s2, s3, s4]) rfl (hres3.out ▸ hout.out)
        · intro hi w5 hA5
          have hres3 := Lib.hid ((if_pos ⟨h1.out, hi⟩).symm.trans hres.out)
          clear hA hwt hres hi d0 d1 d2 d3 d4
          go_wp2_with fail
          refine hA5.cTake ?_
          intro w6 hA6
          go_upto_region 11 with (fail)
          have hA7 := hA6.drew
          obtain ⟨⟨⟨l0, l1, l2, l3, l4⟩, hfl⟩, ll, _⟩ := hA7.c5
          go_region_with (first
            | (go_at_call 93; refine hA8.cBin (List.mem_cons_of_mem _ (List.mem_cons_self ..)) (List.mem_cons_self ..) ?_; intro g9 m9 cp9 w9 hA9; have hsb9 := hA9.blk)
            | (refine hA7.cRd hLv.take hres3.out hop.out ?_; intro k8 tx8 n8 a8 kids8 s8 g8 m8 cp8 w8 hres8 hlv8 hLv8 hA8; obtain ⟨⟨⟨l0, l1, l2, l3, l4⟩, hfl⟩, ll, _⟩ := hA8.c5))
          all_goals
            have hA10 := (hA9.setSyn (.int .i64 11) (.string ⟨(tk T s1.i).text.toArray⟩) (.int .i64 0) (.int .i64 a) (.slice g9 m9 cp9)).weak (ts' := [([.mk k tx n a kids, .mk k8 tx8 n8 a8 kids8], .slice g9 m9 cp9)]) (fun x hx => by rw [List.mem_singleton.1 hx]; exact List.mem_cons_self ..)
            have hI := Lib.hid (show RLeftInv pb tb c B L wb T r [kAnd] w o g' _ from ⟨11, _, 0, a, _, s8, g9, m9, cp9, hA10, hLv8, hres8⟩)
            clear hA5 hA6 hA7 hA8 hA9 hA10 hres3 hres8 hsb9
            go_wp2_with fail
            go_roundg g'
            case measure => omega
            case rel => exact hI.out
      · have hb1 : (s1.er == 0) = false := by rw [beq_eq_false_iff_ne]; exact h1
        have hres3 := Lib.hid (Option.some.inj ((if_neg (fun k => h1 k.1)).symm.trans hres.out))
        replace h1 := Lib.hid h1
        have hA3 := (hA.swap.drop).swap
        obtain ⟨⟨⟨r0, r1, r2, r3, r4⟩, hfz⟩, l3, _⟩ := hA.c5
        have hsb := hA3.blk
        have hA4 := hA3.setSyn (.int .i64 k) (.string ⟨tx.toArray⟩) (.int .i64 n) (.int .i64 a) (.slice ka kn kc)
        obtain ⟨⟨⟨s0, s1', s2, s3, s4⟩, _⟩, _, _⟩ := hA4.c5
        have hout := Lib.hid (hA4.out (k := k) (tx := tx) (n := n) (a := a) (List.mem_cons_self ..))
        clear hA3 hA4
        go_upto_region 12 with (fail)
        go_wp21
        exact bodyPost_ret (v := .agg #[.int .i64 k, .string ⟨tx.toArray⟩, .int .i64 n, .int .i64 a, .slice ka kn kc]) (by simp [results, Tryz.results88, go_sem, s0, s1', s2, s3, s4]) rfl (hres3.out ▸ hout.out)
  · have hb : (s.er != 0) = true := by rw [bne_iff_ne]; exact h0
    have hres3 := Lib.hid (Option.some.inj ((if_pos h0).symm.trans hres))
    replace h0 := Lib.hid h0
    have hout := Lib.hid (hA1.leaf.out (k := 0) (tx := []) (n := 0) (a := 0) (List.mem_cons_self ..))
    go_enter Tryz.func88, Tryz.ntmps88
    go_wp2_with fail
    exact bodyPost_ret (v := .agg #[.int .i64 0, .string ⟨#[]⟩, .int .i64 0, .int .i64 0, .slice none 0 0]) (by simp [results, Tryz.results88, go_sem]) rfl (hres3.out ▸ hout.out)
theorem rleft_3 (pb tb c : Nat) (T : List Tok) (s : St) (w : World) (r : MRd) (o : Syn × St) (h : PR pb tb c T s w) (hlv : Lv s) (hop : RdM pb tb c T 139 #[.pointer (some ⟨pb, 0, none⟩), .int .i64 3] r)
    (hres : mLeft T r [[43], [45]] s = some o) : Calls Tryz.prog 88 #[.pointer (some ⟨pb, 0, none⟩), .int .i64 3] w (ROut pb tb c T w o.1 o.2) := by
  have hA1 := (AtR.begin h).alloc z5 24
  obtain ⟨d0, d1, d2, d3, d4⟩ := h.cells
  have f0 := h.frozen
  have hpos := h.pos
  replace hop := Lib.hid hop
  clear h
  by_cases h0 : s.er = 0
  · have hb : (s.er != 0) = false := by rw [bne_eq_false_iff_eq]; exact h0
    replace hres := Lib.hid (show (r s).bind (fun p => mLeftLoop T r [[43], [45]] (T.length + 2) p.1 p.2) = some o by unfold mLeft at hres; rwa [if_neg (fun k => k h0)] at hres)
    replace h0 := Lib.hid h0
    go_enter Tryz.func88, Tryz.ntmps88
    go_upto_region 8 with (fail)
    have hA2' := (hA1.junk (.cells #[.string ⟨#[111, 114]⟩] 9)).alloc (strs [[43], [45]]) 9
    simp only [World.size_alloc] at hA2'
    generalize hw2 : World.alloc (World.alloc (World.alloc w _) _) _ = w2 at ⊢
    have hA2 : AtR pb tb c T w [(w.heap.size + 1 + 1, strs [[43], [45]], 9), (w.heap.size, z5, 24)] [] norow s w2 := by rw [← hw2]; exact hA2'
    clear hA2' hw2
    generalize w.heap.size + 1 + 1 = wb at hA2 ⊢
    generalize w.heap.size = B at hA2 ⊢
    clear d0 d1 d2 d3 d4 f0 hA1
    go_wp2_with fail
    refine hA2.cRd hlv hres.out hop.out ?_
    intro kd tx n a kids s1 g m cp w3 hres1 hlv1 hLv1 hA3
    go_upto_block 1 with (fail)
    have hA4 := hA3.alloc [.int .i64 kd, .string ⟨tx.toArray⟩, .int .i64 n, .int .i64 a, .slice g m cp] 24
    generalize World.alloc w3 _ = w4 at hA4 ⊢
    generalize w3.heap.size = L at hA4 ⊢
    have hinv := Lib.hid (show RLeftInv pb tb c B L wb T r [[43], [45]] w o (T.length + 2) w4 from ⟨kd, tx, n, a, kids, s1, g, m, cp, hA4, hLv1, hres1⟩)
    clear hA2 hA3 hA4 hres hres1
    go_loopg [7] (T.length + 2) (fun g _ wr => RLeftInv pb tb c B L wb T r [[43], [45]] w o g wr)
    case atStart => exact hinv.out
    case round =>
      obtain ⟨k, tx, n, a, kids, s1, ka, kn, kc, hA, hLv, hres⟩ := hrel
      obtain ⟨g', rfl⟩ : ∃ g', gk = g' + 1 := by
        cases gk with
        | zero => cases hres
        | succ g' => exact ⟨g', rfl⟩
      replace hres := Lib.hid (show (if s1.er = 0 ∧ isW T [[43], [45]] s1.i = true then (r (mTake T s1)).bind fun p => mLeftLoop T r [[43], [45]] g' (binary (tk T s1.i).text 0 (.mk k tx n a kids) p.1) p.2 else some (.mk k tx n a kids, s1)) = some o from hres)
      clear hinv
      obtain ⟨d0, d1, d2, d3, d4⟩ := hA.ps.cells
      by_cases h1 : s1.er = 0
      · have hb1 : (s1.er == 0) = true := by rw [beq_iff_eq]; exact h1
        replace h1 := Lib.hid h1
        have hwt := Lib.hid (hA.wat (wb := wb) (ws := [[43], [45]]) (List.mem_cons_of_mem _ (List.mem_cons_self ..)))
        go_wp2_with fail
        refine hA.cAmongW [[43], [45]] hwt.out (by decide) rfl ?_ ?_
        · intro hi w5 hA5
          have hres3 := Lib.hid (Option.some.inj ((if_neg (fun k => by rw [hi] at k; cases k.2)).symm.trans hres.out))
          clear hA hwt d0 d1 d2 d3 d4
          have hA3 := (hA5.swap.drop).swap
          obtain ⟨⟨⟨r0, r1, r2, r3, r4⟩, hfz⟩, l3, _⟩ := hA5.c5
          have hsb := hA3.blk
          have hA4 := hA3.setSyn (.int .i64 k) (.string ⟨tx.toArray⟩) (.int .i64 n) (.int .i64 a) (.slice ka kn kc)
          obtain ⟨⟨⟨s0, s1', s2, s3, s4⟩, _⟩, _, _⟩ := hA4.c5
          have hout := Lib.hid (hA4.out (k := k) (tx := tx) (n := n) (a := a) (List.mem_cons_self ..))
          clear hA3 hA4
          go_upto_region 12 with (fail)
          go_wp21
          exact bodyPost_ret (v := .agg #[.int .i64 k, .string ⟨tx.toArray⟩, .int .i64 n, .int .i64 a, .slice ka kn kc]) (by simp [results, Tryz.results88, go_sem, s0, s1', s2, s3, s4]) rfl (hres3.out ▸ hout.out)
        · intro hi w5 hA5
          have hres3 := Lib.hid ((if_pos ⟨h1.out, hi⟩).symm.trans hres.out)
          clear hA hwt hres hi d0 d1 d2 d3 d4
          go_wp2_with fail
          refine hA5.cTake ?_
          intro w6 hA6
          go_upto_region 11 with (fail)
          have hA7 := hA6.drew
          obtain ⟨⟨⟨l0, l1, l2, l3, l4⟩, hfl⟩, ll, _⟩ := hA7.c5
          go_region_with (first
            | (go_at_call 93; refine hA8.cBin (List.mem_cons_of_mem _ (List.mem_cons_self ..)) (List.mem_cons_self ..) ?_; intro g9 m9 cp9 w9 hA9; have hsb9 := hA9.blk)
            | (refine hA7.cRd hLv.take hres3.out hop.out ?_; intro k8 tx8 n8 a8 kids8 s8 g8 m8 cp8 w8 hres8 hlv8 hLv8 hA8; obtain ⟨⟨⟨l0, l1, l2, l3, l4⟩, hfl⟩, ll, _⟩ := hA8.c5))
          all_goals
            have hA10 := (hA9.setSyn (.int .i64 11) (.string ⟨(tk T s1.i).text.toArray⟩) (.int .i64 0) (.int .i64 a) (.slice g9 m9 cp9)).weak (ts' := [([.mk k tx n a kids, .mk k8 tx8 n8 a8 kids8], .slice g9 m9 cp9)]) (fun x hx => by rw [List.mem_singleton.1 hx]; exact List.mem_cons_self ..)
            have hI := Lib.hid (show RLeftInv pb tb c B L wb T r [[43], [45]] w o g' _ from ⟨11, _, 0, a, _, s8, g9, m9, cp9, hA10, hLv8, hres8⟩)
            clear hA5 hA6 hA7 hA8 hA9 hA10 hres3 hres8 hsb9
            go_wp2_with fail
            go_roundg g'
            case measure => omega
            case rel => exact hI.out
      · have hb1 : (s1.er == 0) = false := by rw [beq_eq_false_iff_ne]; exact h1
        have hres3 := Lib.hid (Option.some.inj ((if_neg (fun k => h1 k.1)).symm.trans hres.out))
        replace h1 := Lib.hid h1
        have hA3 := (hA.swap.drop).swap
        obtain ⟨⟨⟨r0, r1, r2, r3, r4⟩, hfz⟩, l3, _⟩ := hA.c5
        have hsb := hA3.blk
        have hA4 := hA3.setSyn (.int .i64 k) (.string ⟨tx.toArray⟩) (.int .i64 n) (.int .i64 a) (.slice ka kn kc)
        obtain ⟨⟨⟨s0, s1', s2, s3, s4⟩, _⟩, _, _⟩ := hA4.c5
        have hout := Lib.hid (hA4.out (k := k) (tx := tx) (n := n) (a := a) (List.mem_cons_self ..))
        clear hA3 hA4
        go_upto_region 12 with (fail)
        go_wp21
        exact bodyPost_ret (v := .agg #[.int .i64 k, .string ⟨tx.toArray⟩, .int .i64 n, .int .i64 a, .slice ka kn kc]) (by simp [results, Tryz.results88, go_sem, s0, s1', s2, s3, s4]) rfl (hres3.out ▸ hout.out)
  · have hb : (s.er != 0) = true := by rw [bne_iff_ne]; exact h0
    have hres3 := Lib.hid (Option.some.inj ((if_pos h0).symm.trans hres))
    replace h0 := Lib.hid h0
    have hout := Lib.hid (hA1.leaf.out (k := 0) (tx := []) (n := 0) (a := 0) (List.mem_cons_self ..))
    go_enter Tryz.func88, Tryz.ntmps88
    go_wp2_with fail
    exact bodyPost_ret (v := .agg #[.int .i64 0, .string ⟨#[]⟩, .int .i64 0, .int .i64 0, .slice none 0 0]) (by simp [results, Tryz.results88, go_sem]) rfl (hres3.out ▸ hout.out)
end Go.Proofs.YtplbfmcgddnkeaaGreatDoor
end
