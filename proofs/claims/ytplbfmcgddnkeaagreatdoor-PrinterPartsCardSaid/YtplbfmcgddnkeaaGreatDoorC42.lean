/- Walks of functions, and plain facts. -/
import Derived.Test.YtplbfmcgddnkeaaGreatDoorC39
set_option linter.unusedVariables false
set_option linter.unusedSimpArgs false
set_option maxHeartbeats 20000000
set_option maxRecDepth 100000
namespace Go.Proofs.YtplbfmcgddnkeaaGreatDoor
open Go.RowKit
section
attribute [local go_sem ↓] Go.wp_at_zero Go.wp_at_succ
abbrev strs (ws : List (List UInt8)) : List Value := ws.map fun l => Value.string ⟨l.toArray⟩
def Qbb (pb tb c B L wb : Nat) (T : List Tok) (r : MRd) (ops : List (List UInt8)) (w : World) (o : Syn × St) (g : Nat) (wr : World) : Prop :=
 ∃ k tx n a kids s ka kn kc, AtR pb tb c T w [(L, [.int .i64 k, .string ⟨List.toArray tx⟩, .int .i64 n, .int .i64 a, .slice ka kn kc], 24), (wb, strs ops, 9), (B, z5, 24)] [(kids, .slice ka kn kc)] norow s wr ∧
  Lv s ∧ Q3d T r ops g (.mk k tx n a kids) s = some o
def Q45 (lvl : Int) (ops : List (List UInt8)) : Prop := (lvl = 0 ∧ ops = [kOr]) ∨ (lvl = 1 ∧ ops = [kAnd]) ∨ (lvl = 3 ∧ ops = [[43], [45]]) ∨ (lvl = 4 ∧ ops = [kOr]) ∨ (lvl = 5 ∧ ops = [kAnd]) ∨ (lvl = 6 ∧ ops = [kOr]) ∨ (lvl = 7 ∧ ops = [kAnd])
set_option maxHeartbeats 8000000 in
theorem Q5e (lvl : Int) (ops : List (List UInt8)) (hc : Q45 lvl ops) (pb tb c : Nat) (T : List Tok) (s : St) (w : World) (r : MRd) (o : Syn × St) (h : PR pb tb c T s w) (hlv : Lv s) (hop : RdM pb tb c T 139 #[.pointer (some ⟨pb, 0, none⟩), .int .i64 lvl] r)
  (hres : Q2l T r ops s = some o) : Calls Tryz.prog 88 #[.pointer (some ⟨pb, 0, none⟩), .int .i64 lvl] w (ROut pb tb c T w o.1 o.2) := by
 have hA1 := (AtR.begin h).alloc z5 24
 obtain ⟨d0, d1, d2, d3, d4⟩ := h.cells
 have f0 := h.frozen
 have hpos := h.pos
 replace hop := qh hop
 clear h
 by_cases h0 : s.er = 0
 ·have hb : (s.er != 0) = false := by rw [bne_eq_false_iff_eq]; exact h0
  replace hres := qh (show (r s).bind (fun p => Q3d T r ops (T.length + 2) p.1 p.2) = some o by unfold Q2l at hres; rwa [if_neg (fun k => k h0)] at hres)
  replace h0 := qh h0
  rcases hc with ⟨rfl, hops⟩ | ⟨rfl, hops⟩ | ⟨rfl, hops⟩ | ⟨rfl, hops⟩ | ⟨rfl, hops⟩ | ⟨rfl, hops⟩ | ⟨rfl, hops⟩
  all_goals
   replace hops := qh hops
   go_enter Tryz.func88, Tryz.ntmps88
   go_upto_region 8 with (fail)
   first
   |skip
    have hA2' := (hA1).alloc (strs ops) 9
    simp only [World.size_alloc] at hA2'
    rw [hops.out] at hA2'
    generalize hw2 : World.alloc (World.alloc w _) _ = w2 at ⊢
    have hA2 : AtR pb tb c T w [(w.heap.size + 1, strs ops, 9), (w.heap.size, z5, 24)] [] norow s w2 := by rw [← hw2, hops.out]; exact hA2'
    clear hA2' hw2
    generalize w.heap.size + 1 = wb at hA2 ⊢
   |skip
    have hA2' := (hA1.junk (.cells #[.string ⟨#[111, 114]⟩] 9)).alloc (strs ops) 9
    simp only [World.size_alloc] at hA2'
    rw [hops.out] at hA2'
    generalize hw2 : World.alloc (World.alloc (World.alloc w _) _) _ = w2 at ⊢
    have hA2 : AtR pb tb c T w [(w.heap.size + 1 + 1, strs ops, 9), (w.heap.size, z5, 24)] [] norow s w2 := by rw [← hw2, hops.out]; exact hA2'
    clear hA2' hw2
    generalize w.heap.size + 1 + 1 = wb at hA2 ⊢
   generalize w.heap.size = B at hA2 ⊢
   clear d0 d1 d2 d3 d4 f0 hA1
   go_wp2_with fail
   refine hA2.cRd hlv hres.out hop.out ?_
   intro kd tx n a kids s1 g m cp w3 hres1 hlv1 hLv1 hA3
   go_upto_block 1 with (fail)
   have hA4 := hA3.alloc [.int .i64 kd, .string ⟨tx.toArray⟩, .int .i64 n, .int .i64 a, .slice g m cp] 24
   generalize World.alloc w3 _ = w4 at hA4 ⊢
   generalize w3.heap.size = L at hA4 ⊢
   have hinv := qh (show Qbb pb tb c B L wb T r ops w o (T.length + 2) w4 from ⟨kd, tx, n, a, kids, s1, g, m, cp, hA4, hLv1, hres1⟩)
   clear hA2 hA3 hA4 hres hres1
   go_loopg [7] (T.length + 2) (fun g _ wr => Qbb pb tb c B L wb T r ops w o g wr)
   case atStart => exact hinv.out
   case round =>
    obtain ⟨k, tx, n, a, kids, s1, ka, kn, kc, hA, hLv, hres⟩ := hrel
    obtain ⟨g', rfl⟩ : ∃ g', gk = g' + 1 := by
     cases gk with
     | zero => cases hres
     | succ g' => exact ⟨g', rfl⟩
    replace hres := qh (show (if s1.er = 0 ∧ isW T ops s1.i = true then (r (Q8 T s1)).bind fun p => Q3d T r ops g' (binary (tk T s1.i).text 0 (.mk k tx n a kids) p.1) p.2 else some (.mk k tx n a kids, s1)) = some o from hres)
    clear hinv
    obtain ⟨d0, d1, d2, d3, d4⟩ := hA.ps.cells
    by_cases h1 : s1.er = 0
    ·have hb1 : (s1.er == 0) = true := by rw [beq_iff_eq]; exact h1
     replace h1 := qh h1
     have hwt := qh (hA.wat (wb := wb) (ws := ops) (List.mem_cons_of_mem _ (List.mem_cons_self ..)))
     go_wp2_with fail
     refine hA.cAmongW ops hwt.out (by rw [hops.out]; decide) (by rw [hops.out]; rfl) ?_ ?_
     ·intro hi w5 hA5
      have hres3 := qh (Option.some.inj ((if_neg (fun k => by rw [hi] at k; cases k.2)).symm.trans hres.out))
      clear hA hwt d0 d1 d2 d3 d4
      have hA3 := (hA5.swap.drop).swap
      obtain ⟨⟨⟨r0, r1, r2, r3, r4⟩, hfz⟩, l3, _⟩ := hA5.c5
      have hsb := hA3.blk
      have hA4 := hA3.setSyn (.int .i64 k) (.string ⟨tx.toArray⟩) (.int .i64 n) (.int .i64 a) (.slice ka kn kc)
      obtain ⟨⟨⟨s0, s1', s2, s3, s4⟩, _⟩, _, _⟩ := hA4.c5
      have hout := qh (hA4.out (k := k) (tx := tx) (n := n) (a := a) (List.mem_cons_self ..))
      clear hA3 hA4
      go_upto_region 12 with (fail)
      go_wp21
      exact bodyPost_ret (v := .agg #[.int .i64 k, .string ⟨tx.toArray⟩, .int .i64 n, .int .i64 a, .slice ka kn kc]) (by simp [results, Tryz.results88, go_sem, s0, s1', s2, s3, s4]) rfl (hres3.out ▸ hout.out)
     ·intro hi w5 hA5
      have hres3 := qh ((if_pos ⟨h1.out, hi⟩).symm.trans hres.out)
      clear hA hwt hres hi d0 d1 d2 d3 d4
      go_wp2_with fail
      refine hA5.cTake ?_
      intro w6 hA6
      go_upto_region 11 with (fail)
      have hA7 := hA6.drew
      obtain ⟨⟨⟨l0, l1, l2, l3, l4⟩, hfl⟩, ll, _⟩ := hA7.c5
      go_region_with (first
       | (go_at_call 93; refine hA8.cBin (List.mem_cons_of_mem _ (List.mem_cons_self ..)) (List.mem_cons_self ..) ?_; intro g9 m9 cp9 w9 hA9; have hsb9 := hA9.blk)
       | (refine hA7.cRd hLv.take hres3.out hop.out ?_; intro k8 tx8 n8 a8 kids8 s8 g8 m8 cp8 w8 hres8 hlv8 hLv8 hA8; obtain ⟨⟨⟨l0, l1, l2, l3, l4⟩, hfl⟩, ll, _⟩ := hA8.c5))
      all_goals
       have hA10 := (hA9.setSyn (.int .i64 11) (.string ⟨(tk T s1.i).text.toArray⟩) (.int .i64 0) (.int .i64 a) (.slice g9 m9 cp9)).weak (ts' := [([.mk k tx n a kids, .mk k8 tx8 n8 a8 kids8], .slice g9 m9 cp9)]) (fun x hx => by rw [List.mem_singleton.1 hx]; exact List.mem_cons_self ..)
       have hI := qh (show Qbb pb tb c B L wb T r ops w o g' _ from ⟨11, _, 0, a, _, s8, g9, m9, cp9, hA10, hLv8, hres8⟩)
       clear hA5 hA6 hA7 hA8 hA9 hA10 hres3 hres8 hsb9
       go_wp2_with fail
       go_roundg g'
       case measure => omega
       case rel => exact hI.out
    ·have hb1 : (s1.er == 0) = false := by rw [beq_eq_false_iff_ne]; exact h1
     have hres3 := qh (Option.some.inj ((if_neg (fun k => h1 k.1)).symm.trans hres.out))
     replace h1 := qh h1
     have hA3 := (hA.swap.drop).swap
     obtain ⟨⟨⟨r0, r1, r2, r3, r4⟩, hfz⟩, l3, _⟩ := hA.c5
     have hsb := hA3.blk
     have hA4 := hA3.setSyn (.int .i64 k) (.string ⟨tx.toArray⟩) (.int .i64 n) (.int .i64 a) (.slice ka kn kc)
     obtain ⟨⟨⟨s0, s1', s2, s3, s4⟩, _⟩, _, _⟩ := hA4.c5
     have hout := qh (hA4.out (k := k) (tx := tx) (n := n) (a := a) (List.mem_cons_self ..))
     clear hA3 hA4
     go_upto_region 12 with (fail)
     go_wp21
     exact bodyPost_ret (v := .agg #[.int .i64 k, .string ⟨tx.toArray⟩, .int .i64 n, .int .i64 a, .slice ka kn kc]) (by simp [results, Tryz.results88, go_sem, s0, s1', s2, s3, s4]) rfl (hres3.out ▸ hout.out)
 ·have hb : (s.er != 0) = true := by rw [bne_iff_ne]; exact h0
  have hres3 := qh (Option.some.inj ((if_pos h0).symm.trans hres))
  replace h0 := qh h0
  have hout := qh (hA1.leaf.out (k := 0) (tx := []) (n := 0) (a := 0) (List.mem_cons_self ..))
  go_enter Tryz.func88, Tryz.ntmps88
  go_wp2_with fail
  exact bodyPost_ret (v := .agg #[.int .i64 0, .string ⟨#[]⟩, .int .i64 0, .int .i64 0, .slice none 0 0]) (by simp [results, Tryz.results88, go_sem]) rfl (hres3.out ▸ hout.out)
end
section
attribute [local go_sem ↓] Go.wp_at_zero Go.wp_at_succ
theorem Qou (pb tb c f : Nat) (T : List Tok) (s : St) (w : World) (o : Syn × St) (h : PR pb tb c T s w) (hlv : Lv s)
  (hneg : RdM pb tb c T 171 #[.pointer (some ⟨pb, 0, none⟩)] (mrd Q0 T f .neg))
  (hcond : RdM pb tb c T 45 #[.pointer (some ⟨pb, 0, none⟩)] (mrd Q0 T f .cond))
  (hsum : RdM pb tb c T 88 #[.pointer (some ⟨pb, 0, none⟩), .int .i64 3] (mrd Q0 T f .sum))
  (hres : mrd Q0 T (f + 1) .neg s = some o) : Calls Tryz.prog 171 #[.pointer (some ⟨pb, 0, none⟩)] w (ROut pb tb c T w o.1 o.2) := by
 have hA := (AtR.begin h).alloc z5 24
 obtain ⟨d0, d1, d2, d3, d4⟩ := h.cells
 have hpos := h.pos
 have f0 := h.frozen
 rw [mrd] at hres
 dsimp only at hres
 replace hres := qh hres
 clear h
 replace hneg := qh hneg
 replace hcond := qh hcond
 replace hsum := qh hsum
 by_cases h0 : s.er = 0
 ·have hl := hlv h0
  have hb : (s.er != 0) = false := by rw [bne_eq_false_iff_eq]; exact h0
  replace hres := qh ((if_neg (fun k => k h0)).symm.trans hres.out)
  have hl := hlv h0
  replace h0 := qh h0
  go_enter Tryz.func171, Tryz.ntmps171
  go_wp2_with fail
  generalize w.heap.size = B at hA ⊢
  refine hA.cTok ?_
  clear hA
  try clear d0 d1 d2 d3 d4 f0
  intro W hA
  go_upto_region 4 with (fail)
  replace hA := hA.alloc [.int .i64 (tk T s.i).kind, .string ⟨(tk T s.i).text.toArray⟩, .int .i64 (tk T s.i).pos] 45
  generalize W.heap.size = M at hA ⊢
  generalize World.alloc W _ = W at hA ⊢
  go_wp2_with fail
  refine hA.cIs [110, 111, 116] ?_ ?_
  rotate_left
  ·clear hA
   intro hi W hA
   replace hres := qh ((if_pos hi).symm.trans hres.out)
   go_wp2_with fail
   refine hA.cTake ?_
   clear hA
   intro W hA
   go_wp2_with fail
   refine hA.cPush (by rw [Qp]; exact hl) ?_
   clear hA
   intro W hA
   go_wp2_with fail
   refine hA.cRd (Lv.push _) hres.out hneg.out ?_
   clear hA
   intro kd1 tx1 n1 a1 kids1 s1 g1 m1 cp1 W hres1 hlv1 hLv1 hA
   replace hres1 := qh hres1
   go_upto_region 8 with (fail)
   replace hA := hA.alloc [.int .i64 kd1, .string ⟨List.toArray (tx1)⟩, .int .i64 n1, .int .i64 a1, .slice g1 m1 cp1] 24
   generalize W.heap.size = N at hA ⊢
   generalize World.alloc W _ = W at hA ⊢
   go_wp2_with fail
   refine hA.cPop (by rw [hlv1, Q08]; omega) ?_
   clear hA
   intro W hA
   go_upto_region 9 with (fail)
   obtain ⟨⟨x0, x1, x2, x3, x4⟩, _⟩ := own5 (hA.loc _ mem0)
   obtain ⟨⟨y0, y1, y2⟩, _⟩ := own3 (hA.loc _ mem1)
   have hW := hA.size
   replace hA := hA.slice1 (k := kd1) (tx := tx1) (n := n1) (a := a1) mem0
   have hres3 := qh (Option.some.inj hres1.out)
   have hsb := (hA.one mem2).blk
   have hR := hA.one (x := (B, z5, 24)) mem2
   have hsb := hR.blk
   have hZ := hR.setSyn (.int .i64 12) (.string ⟨List.toArray ([])⟩) (.int .i64 0) (.int .i64 (tk T s.i).pos) (.slice (some ⟨W.heap.size, 0, none⟩) 1 1)
   obtain ⟨⟨⟨q0, q1, q2, q3, q4⟩, _⟩, _, _⟩ := hZ.c5
   have hout := qh (hZ.out (k := 12) (tx := []) (n := 0) (a := (tk T s.i).pos) mem0)
   clear hR hZ hA
   go_wp21
   exact bodyPost_ret (v := .agg #[.int .i64 12, .string ⟨List.toArray ([])⟩, .int .i64 0, .int .i64 (tk T s.i).pos, .slice (some ⟨W.heap.size, 0, none⟩) 1 1]) (by simp [results, Tryz.results171, go_sem, q0, q1, q2, q3, q4]) rfl (hres3.out ▸ hout.out)
  clear hA
  intro hi W hA
  replace hres := qh ((if_neg (by rw [show isW T [kNot] s.i = false from hi]; decide)).symm.trans hres.out)
  go_wp2_with fail
  refine hA.cIs [97, 108, 108] ?_ ?_
  rotate_left
  ·skip
   clear hA
   intro hi W hA
   replace hres := qh ((if_pos (.inl hi)).symm.trans hres.out)
   go_wp2_with fail
   refine hA.cTake ?_
   clear hA
   intro W hA
   go_wp2_with fail
   refine hA.cName ?_
   clear hA
   intro g1 m1 cp1 W hA
   go_upto_region 13 with (fail)
   replace hA := hA.alloc [.int .i64 8, .string ⟨List.toArray ((tk T (Q8 T s).i).text)⟩, .int .i64 0, .int .i64 (tk T (Q8 T s).i).pos, .slice g1 m1 cp1] 24
   generalize W.heap.size = N at hA ⊢
   generalize World.alloc W _ = W at hA ⊢
   go_wp2_with fail
   refine hA.cNeed [58] ?_
   clear hA
   intro W hA
   go_wp2_with fail
   refine hA.cPush (by rw [Qy, Q4i, Qp]; exact hl) ?_
   clear hA
   intro W hA
   go_wp2_with fail
   refine hA.cRd (Lv.push _) hres.out hcond.out ?_
   clear hA
   intro kd2 tx2 n2 a2 kids2 s2 g2 m2 cp2 W hres1 hlv2 hLv2 hA
   replace hres1 := qh hres1
   go_upto_region 16 with (fail)
   replace hA := hA.alloc [.int .i64 kd2, .string ⟨List.toArray (tx2)⟩, .int .i64 n2, .int .i64 a2, .slice g2 m2 cp2] 24
   generalize W.heap.size = N2 at hA ⊢
   generalize World.alloc W _ = W at hA ⊢
   go_wp2_with fail
   refine hA.cPop (by rw [hlv2, Q08]; omega) ?_
   clear hA
   intro W hA
   go_upto_region 17 with (fail)
   obtain ⟨⟨x0, x1, x2, x3, x4⟩, _⟩ := own5 (hA.loc _ mem0)
   obtain ⟨⟨v0, v1, v2, v3, v4⟩, _⟩ := own5 (hA.loc _ mem1)
   obtain ⟨⟨y0, y1, y2⟩, _⟩ := own3 (hA.loc _ mem2)
   replace hA := hA.slice2 (k := 8) (tx := (tk T (Q8 T s).i).text) (n := 0) (a := (tk T (Q8 T s).i).pos) (k' := kd2) (tx' := tx2) (n' := n2) (a' := a2) mem1 mem0
   have hres3 := qh (Option.some.inj hres1.out)
   have hsb := (hA.one mem3).blk
   have hR := hA.one (x := (B, z5, 24)) mem3
   have hsb := hR.blk
   have hZ := hR.setSyn (.int .i64 13) (.string ⟨List.toArray ((tk T s.i).text)⟩) (.int .i64 0) (.int .i64 (tk T s.i).pos) (.slice (some ⟨W.heap.size, 0, none⟩) 2 2)
   obtain ⟨⟨⟨q0, q1, q2, q3, q4⟩, _⟩, _, _⟩ := hZ.c5
   have hout := qh (hZ.out (k := 13) (tx := (tk T s.i).text) (n := 0) (a := (tk T s.i).pos) mem0)
   clear hR hZ hA
   go_wp21
   exact bodyPost_ret (v := .agg #[.int .i64 13, .string ⟨List.toArray ((tk T s.i).text)⟩, .int .i64 0, .int .i64 (tk T s.i).pos, .slice (some ⟨W.heap.size, 0, none⟩) 2 2]) (by simp [results, Tryz.results171, go_sem, q0, q1, q2, q3, q4]) rfl (hres3.out ▸ hout.out)
  clear hA
  intro hi1 W hA
  go_wp2_with fail
  refine hA.cIs [115, 111, 109, 101] ?_ ?_
  rotate_left
  ·skip
   clear hA
   intro hi W hA
   replace hres := qh ((if_pos (.inr hi)).symm.trans hres.out)
   go_wp2_with fail
   refine hA.cTake ?_
   clear hA
   intro W hA
   go_wp2_with fail
   refine hA.cName ?_
   clear hA
   intro g1 m1 cp1 W hA
   go_upto_region 13 with (fail)
   replace hA := hA.alloc [.int .i64 8, .string ⟨List.toArray ((tk T (Q8 T s).i).text)⟩, .int .i64 0, .int .i64 (tk T (Q8 T s).i).pos, .slice g1 m1 cp1] 24
   generalize W.heap.size = N at hA ⊢
   generalize World.alloc W _ = W at hA ⊢
   go_wp2_with fail
   refine hA.cNeed [58] ?_
   clear hA
   intro W hA
   go_wp2_with fail
   refine hA.cPush (by rw [Qy, Q4i, Qp]; exact hl) ?_
   clear hA
   intro W hA
   go_wp2_with fail
   refine hA.cRd (Lv.push _) hres.out hcond.out ?_
   clear hA
   intro kd2 tx2 n2 a2 kids2 s2 g2 m2 cp2 W hres1 hlv2 hLv2 hA
   replace hres1 := qh hres1
   go_upto_region 16 with (fail)
   replace hA := hA.alloc [.int .i64 kd2, .string ⟨List.toArray (tx2)⟩, .int .i64 n2, .int .i64 a2, .slice g2 m2 cp2] 24
   generalize W.heap.size = N2 at hA ⊢
   generalize World.alloc W _ = W at hA ⊢
   go_wp2_with fail
   refine hA.cPop (by rw [hlv2, Q08]; omega) ?_
   clear hA
   intro W hA
   go_upto_region 17 with (fail)
   obtain ⟨⟨x0, x1, x2, x3, x4⟩, _⟩ := own5 (hA.loc _ mem0)
   obtain ⟨⟨v0, v1, v2, v3, v4⟩, _⟩ := own5 (hA.loc _ mem1)
   obtain ⟨⟨y0, y1, y2⟩, _⟩ := own3 (hA.loc _ mem2)
   replace hA := hA.slice2 (k := 8) (tx := (tk T (Q8 T s).i).text) (n := 0) (a := (tk T (Q8 T s).i).pos) (k' := kd2) (tx' := tx2) (n' := n2) (a' := a2) mem1 mem0
   have hres3 := qh (Option.some.inj hres1.out)
   have hsb := (hA.one mem3).blk
   have hR := hA.one (x := (B, z5, 24)) mem3
   have hsb := hR.blk
   have hZ := hR.setSyn (.int .i64 13) (.string ⟨List.toArray ((tk T s.i).text)⟩) (.int .i64 0) (.int .i64 (tk T s.i).pos) (.slice (some ⟨W.heap.size, 0, none⟩) 2 2)
   obtain ⟨⟨⟨q0, q1, q2, q3, q4⟩, _⟩, _, _⟩ := hZ.c5
   have hout := qh (hZ.out (k := 13) (tx := (tk T s.i).text) (n := 0) (a := (tk T s.i).pos) mem0)
   clear hR hZ hA
   go_wp21
   exact bodyPost_ret (v := .agg #[.int .i64 13, .string ⟨List.toArray ((tk T s.i).text)⟩, .int .i64 0, .int .i64 (tk T s.i).pos, .slice (some ⟨W.heap.size, 0, none⟩) 2 2]) (by simp [results, Tryz.results171, go_sem, q0, q1, q2, q3, q4]) rfl (hres3.out ▸ hout.out)
  clear hA
  intro hi2 W hA
  replace hres := qh ((if_neg (by rintro (k | k); rw [hi1] at k; cases k; rw [hi2] at k; cases k)).symm.trans hres.out)
  go_wp2_with fail
  refine hA.cRd (hlv) hres.out hsum.out ?_
  clear hA
  intro kd1 tx1 n1 a1 kids1 s1 g1 m1 cp1 W hres1 hlv1 hLv1 hA
  replace hres1 := qh hres1
  go_upto_region 19 with (fail)
  replace hA := hA.alloc [.int .i64 kd1, .string ⟨List.toArray (tx1)⟩, .int .i64 n1, .int .i64 a1, .slice g1 m1 cp1] 24
  generalize W.heap.size = N at hA ⊢
  generalize World.alloc W _ = W at hA ⊢
  obtain ⟨d0, d1, d2, d3, d4⟩ := hA.ps.cells
  by_cases h1 : s1.er = 0
  ·have hb1 : (s1.er == 0) = true := by rw [beq_iff_eq]; exact h1
   replace h1 := qh h1
   go_wp2_with fail
   refine hA.cAmong [[61], [33, 61], [60], [60, 61]] (by decide) rfl rfl rfl ?_ ?_
   ·clear hA d0 d1 d2 d3 d4
    intro hi W hA
    have hres3 := qh (Option.some.inj ((if_neg (fun k => by rw [hi] at k; cases k.2)).symm.trans hres1.out))
    go_upto_region 22 with (fail)
    obtain ⟨⟨z0, z1, z2, z3, z4⟩, _⟩ := own5 (hA.loc _ mem0)
    have hR := hA.one (x := (B, z5, 24)) mem2
    have hsb := hR.blk
    have hZ := hR.setSyn (.int .i64 kd1) (.string ⟨List.toArray (tx1)⟩) (.int .i64 n1) (.int .i64 a1) (.slice g1 m1 cp1)
    obtain ⟨⟨⟨q0, q1, q2, q3, q4⟩, _⟩, _, _⟩ := hZ.c5
    have hout := qh (hZ.out (k := kd1) (tx := tx1) (n := n1) (a := a1) mem0)
    clear hR hZ hA
    go_wp21
    exact bodyPost_ret (v := .agg #[.int .i64 kd1, .string ⟨List.toArray (tx1)⟩, .int .i64 n1, .int .i64 a1, .slice g1 m1 cp1]) (by simp [results, Tryz.results171, go_sem, q0, q1, q2, q3, q4]) rfl (hres3.out ▸ hout.out)
   ·clear hA d0 d1 d2 d3 d4
    intro hi W hA
    replace hres1 := qh ((if_pos ⟨h1.out, hi⟩).symm.trans hres1.out)
    go_wp2_with fail
    refine hA.cTake ?_
    clear hA
    intro W hA
    go_upto_region 21 with (fail)
    have hA7 := hA.drew
    obtain ⟨⟨⟨l0, l1, l2, l3, l4⟩, hfl⟩, ll, _⟩ := hA7.c5
    refine' Q2s ?kk ?ff
    case ff =>
     intro key
     go_region_with (first
      | (go_at_call 93; refine hA8.cBin (List.mem_cons_of_mem _ (List.mem_cons_self ..)) (List.mem_cons_self ..) ?_; intro g9 m9 cp9 w9 hA9; have hsb9 := hA9.blk)
      | (refine hA7.cRd hLv1.take hres1.out hsum.out ?_; intro k8 tx8 n8 a8 kids8 s8 g8 m8 cp8 w8 hres8 hlv8 hLv8 hA8; obtain ⟨⟨⟨l0, l1, l2, l3, l4⟩, hfl⟩, ll, -⟩ := hA8.c5))
     all_goals
      have hA10 := (hA9.setSyn (.int .i64 11) (.string ⟨(tk T s1.i).text.toArray⟩) (.int .i64 0) (.int .i64 a1) (.slice g9 m9 cp9)).weak (ts' := [([.mk kd1 tx1 n1 a1 kids1, .mk k8 tx8 n8 a8 kids8], .slice g9 m9 cp9)]) (fun x hx => by rw [List.mem_singleton.1 hx]; exact List.mem_cons_self ..)
      generalize setSyn w9 _ _ _ _ _ _ = w10 at hA10 ⊢
      clear hA9 hA8 hsb9 l0 l1 l2 l3 l4 hfl ll
      clear w9 w8
      revert hA10 hres8
      clear hlv8 hLv8
      revert w10 g9 m9 cp9 cp8 m8 g8 s8 kids8 a8 n8 tx8 k8
      exact key.out
    case kk =>
     intro k8 tx8 n8 a8 kids8 s8 g8 m8 cp8 g9 m9 cp9 W hres8 hA
     have hres3 := qh (Option.some.inj hres8)
     go_upto_region 22 with (fail)
     obtain ⟨⟨z0, z1, z2, z3, z4⟩, _⟩ := own5 (hA.loc _ mem0)
     have hR := hA.one (x := (B, z5, 24)) mem2
     have hsb := hR.blk
     have hZ := hR.setSyn (.int .i64 11) (.string ⟨List.toArray ((tk T s1.i).text)⟩) (.int .i64 0) (.int .i64 a1) (.slice g9 m9 cp9)
     obtain ⟨⟨⟨q0, q1, q2, q3, q4⟩, _⟩, _, _⟩ := hZ.c5
     have hout := qh (hZ.out (k := 11) (tx := (tk T s1.i).text) (n := 0) (a := a1) mem0)
     clear hR hZ hA
     go_wp21
     exact bodyPost_ret (v := .agg #[.int .i64 11, .string ⟨List.toArray ((tk T s1.i).text)⟩, .int .i64 0, .int .i64 a1, .slice g9 m9 cp9]) (by simp [results, Tryz.results171, go_sem, q0, q1, q2, q3, q4]) rfl (hres3.out ▸ hout.out)
  ·have hb1 : (s1.er == 0) = false := by rw [beq_eq_false_iff_ne]; exact h1
   have hres3 := qh (Option.some.inj ((if_neg (fun k => h1 k.1)).symm.trans hres1.out))
   replace h1 := qh h1
   clear d0 d1 d2 d4
   go_upto_region 22 with (fail)
   obtain ⟨⟨z0, z1, z2, z3, z4⟩, _⟩ := own5 (hA.loc _ mem0)
   have hR := hA.one (x := (B, z5, 24)) mem2
   have hsb := hR.blk
   have hZ := hR.setSyn (.int .i64 kd1) (.string ⟨List.toArray (tx1)⟩) (.int .i64 n1) (.int .i64 a1) (.slice g1 m1 cp1)
   obtain ⟨⟨⟨q0, q1, q2, q3, q4⟩, _⟩, _, _⟩ := hZ.c5
   have hout := qh (hZ.out (k := kd1) (tx := tx1) (n := n1) (a := a1) mem0)
   clear hR hZ hA
   go_wp21
   exact bodyPost_ret (v := .agg #[.int .i64 kd1, .string ⟨List.toArray (tx1)⟩, .int .i64 n1, .int .i64 a1, .slice g1 m1 cp1]) (by simp [results, Tryz.results171, go_sem, q0, q1, q2, q3, q4]) rfl (hres3.out ▸ hout.out)
 ·-- behind an error
  have hb : (s.er != 0) = true := by rw [bne_iff_ne]; exact h0
  have hres3 := qh (Option.some.inj ((if_pos h0).symm.trans hres.out))
  replace h0 := qh h0
  have hout := qh (hA.leaf.out (k := 0) (tx := []) (n := 0) (a := 0) (List.mem_cons_self ..))
  go_enter Tryz.func171, Tryz.ntmps171
  go_wp2_with fail
  exact bodyPost_ret (v := .agg #[.int .i64 0, .string ⟨#[]⟩, .int .i64 0, .int .i64 0, .slice none 0 0]) (by simp [results, Tryz.results171, go_sem]) rfl (hres3.out ▸ hout.out)
end
section
attribute [local go_sem ↓] Go.wp_at_zero Go.wp_at_succ
theorem Qka (pb tb c f : Nat) (T : List Tok) (s : St) (w : World) (o : Syn × St) (h : PR pb tb c T s w) (hlv : Lv s)
  (hcond : RdM pb tb c T 45 #[.pointer (some ⟨pb, 0, none⟩)] (mrd Q0 T f .cond))
  (hsum : RdM pb tb c T 88 #[.pointer (some ⟨pb, 0, none⟩), .int .i64 3] (mrd Q0 T f .sum))
  (hres : mrd Q0 T (f + 1) .unit s = some o) : Calls Tryz.prog 172 #[.pointer (some ⟨pb, 0, none⟩)] w (ROut pb tb c T w o.1 o.2) := by
 have hA := (AtR.begin h).alloc z5 24
 obtain ⟨d0, d1, d2, d3, d4⟩ := h.cells
 have hpos := h.pos
 have f0 := h.frozen
 rw [mrd] at hres
 dsimp only at hres
 replace hres := qh hres
 clear h
 replace hcond := qh hcond
 replace hsum := qh hsum
 by_cases h0 : s.er = 0
 ·skip
  have hb : (s.er != 0) = false := by rw [bne_eq_false_iff_eq]; exact h0
  replace hres := qh ((if_neg (fun k => k h0)).symm.trans hres.out)
  have hl := hlv h0
  replace h0 := qh h0
  go_enter Tryz.func172, Tryz.ntmps172
  go_wp2_with fail
  generalize w.heap.size = B at hA ⊢
  refine hA.cTok ?_
  clear hA
  try clear d0 d1 d2 d3 d4 f0
  intro W hA
  go_upto_region 4 with (fail)
  replace hA := hA.alloc [.int .i64 (tk T s.i).kind, .string ⟨(tk T s.i).text.toArray⟩, .int .i64 (tk T s.i).pos] 45
  generalize W.heap.size = M at hA ⊢
  generalize World.alloc W _ = W at hA ⊢
  obtain ⟨⟨y0, y1, y2⟩, _⟩ := own3 (hA.loc _ mem0)
  go_upto_region 6 with (fail)
  replace hA := hA.leaf.alloc [.int .i64 10, .string ⟨(tk T s.i).text.toArray⟩, .int .i64 0, .int .i64 (tk T s.i).pos, .slice none 0 0] 24
  generalize W.heap.size = N at hA ⊢
  generalize World.alloc W _ = W at hA ⊢
  obtain ⟨⟨y0, y1, y2⟩, _⟩ := own3 (hA.loc _ mem1)
  by_cases hk : (tk T s.i).kind = 1
  ·have hbk : ((tk T s.i).kind == 1) = true := by rw [beq_iff_eq]; exact hk
   have hres3 := qh (Option.some.inj ((if_pos hk).symm.trans hres.out))
   replace hk := qh hk
   go_wp2_with fail
   refine hA.cNumber ?_
   clear hA
   intro g1 m1 cp1 W hA
   have hR := hA.one (x := (B, z5, 24)) mem2
   have hsb := hR.blk
   have hZ := hR.setSyn (.int .i64 9) (.string ⟨List.toArray ([])⟩) (.int .i64 (mVal (tk T s.i).text)) (.int .i64 (tk T s.i).pos) (.slice g1 m1 cp1)
   obtain ⟨⟨⟨q0, q1, q2, q3, q4⟩, _⟩, _, _⟩ := hZ.c5
   have hout := qh (hZ.out (k := 9) (tx := []) (n := (mVal (tk T s.i).text)) (a := (tk T s.i).pos) mem0)
   clear hR hZ hA
   go_wp21
   exact bodyPost_ret (v := .agg #[.int .i64 9, .string ⟨List.toArray ([])⟩, .int .i64 (mVal (tk T s.i).text), .int .i64 (tk T s.i).pos, .slice g1 m1 cp1]) (by simp [results, Tryz.results172, go_sem, q0, q1, q2, q3, q4]) rfl (hres3.out ▸ hout.out)
  have hbk : ((tk T s.i).kind == 1) = false := by rw [beq_eq_false_iff_ne]; exact hk
  replace hres := qh ((if_neg hk).symm.trans hres.out)
  replace hk := qh hk
  go_wp2_with fail
  refine hA.cNamed ?_ ?_
  rotate_left
  ·clear hA
   intro hi W hA
   have hres3 := qh (Option.some.inj ((if_pos hi).symm.trans hres.out))
   go_wp2_with fail
   refine hA.cName ?_
   clear hA
   intro g1 m1 cp1 W hA
   have hR := hA.one (x := (B, z5, 24)) mem2
   have hsb := hR.blk
   have hZ := hR.setSyn (.int .i64 8) (.string ⟨List.toArray ((tk T s.i).text)⟩) (.int .i64 0) (.int .i64 (tk T s.i).pos) (.slice g1 m1 cp1)
   obtain ⟨⟨⟨q0, q1, q2, q3, q4⟩, _⟩, _, _⟩ := hZ.c5
   have hout := qh (hZ.out (k := 8) (tx := (tk T s.i).text) (n := 0) (a := (tk T s.i).pos) mem0)
   clear hR hZ hA
   go_wp21
   exact bodyPost_ret (v := .agg #[.int .i64 8, .string ⟨List.toArray ((tk T s.i).text)⟩, .int .i64 0, .int .i64 (tk T s.i).pos, .slice g1 m1 cp1]) (by simp [results, Tryz.results172, go_sem, q0, q1, q2, q3, q4]) rfl (hres3.out ▸ hout.out)
  clear hA
  intro hi W hA
  replace hres := qh ((if_neg (by rw [hi]; decide)).symm.trans hres.out)
  go_wp2_with fail
  refine hA.cIs [40] ?_ ?_
  rotate_left
  ·clear hA
   intro hi W hA
   replace hres := qh ((if_pos hi).symm.trans hres.out)
   go_wp2_with fail
   refine hA.cTake ?_
   clear hA
   intro W hA
   go_wp2_with fail
   refine hA.cPush (by rw [Qp]; exact hl) ?_
   clear hA
   intro W hA
   have hsb := hA.blk
   go_wp2_with fail
   refine hA.cRd (Lv.push _) hres.out hcond.out ?_
   clear hA
   intro kd1 tx1 n1 a1 kids1 s1 g1 m1 cp1 W hres1 hlv1 hLv1 hA
   replace hres1 := qh hres1
   have hsb := hA.blk
   go_upto_region 14 with (fail)
   replace hA := hA.setSyn (.int .i64 kd1) (.string ⟨List.toArray (tx1)⟩) (.int .i64 n1) (.int .i64 a1) (.slice g1 m1 cp1)
   generalize setSyn W _ _ _ _ _ _ = W at hA ⊢
   go_wp2_with fail
   refine hA.cPop (by rw [hlv1, Q08]; omega) ?_
   clear hA
   intro W hA
   go_wp2_with fail
   refine hA.cNeed [41] ?_
   clear hA
   intro W hA
   have hres3 := qh (Option.some.inj hres1.out)
   go_upto_region 41 with (fail)
   obtain ⟨⟨z0, z1, z2, z3, z4⟩, _⟩ := own5 (hA.loc _ mem0)
   have hR := hA.one (x := (B, z5, 24)) mem2
   have hsb := hR.blk
   have hZ := hR.setSyn (.int .i64 kd1) (.string ⟨List.toArray (tx1)⟩) (.int .i64 n1) (.int .i64 a1) (.slice g1 m1 cp1)
   obtain ⟨⟨⟨q0, q1, q2, q3, q4⟩, _⟩, _, _⟩ := hZ.c5
   have hout := qh (hZ.out (k := kd1) (tx := tx1) (n := n1) (a := a1) mem0)
   clear hR hZ hA
   go_wp21
   exact bodyPost_ret (v := .agg #[.int .i64 kd1, .string ⟨List.toArray (tx1)⟩, .int .i64 n1, .int .i64 a1, .slice g1 m1 cp1]) (by simp [results, Tryz.results172, go_sem, q0, q1, q2, q3, q4]) rfl (hres3.out ▸ hout.out)
  clear hA
  intro hi W hA
  replace hres := qh ((if_neg (by rw [hi]; decide)).symm.trans hres.out)
  go_wp2_with fail
  refine hA.cIs [105, 110] ?_ ?_
  rotate_left
  ·skip
   clear hA
   intro hi W hA
   replace hres := qh ((if_pos (.inl hi)).symm.trans hres.out)
   go_wp2_with fail
   refine hA.cTake ?_
   clear hA
   intro W hA
   go_wp2_with fail
   refine hA.cNeed [40] ?_
   clear hA
   intro W hA
   go_wp2_with fail
   refine hA.cPush (by rw [Qy, Qp]; exact hl) ?_
   clear hA
   intro W hA
   go_wp2_with fail
   refine hA.cRd (Lv.push _) hres.out hsum.out ?_
   clear hA
   intro kd1 tx1 n1 a1 kids1 s1 g1 m1 cp1 W hres1 hlv1 hLv1 hA
   replace hres1 := qh hres1
   obtain ⟨⟨x0, x1, x2, x3, x4⟩, x5⟩ := own5 (hA.loc _ mem0)
   have x6 := hA.lt mem0
   go_upto_region 21 with (fail)
   clear x0 x1 x2 x3 x4 x5 x6
   replace hA := (hA.set4 (.slice (some ⟨W.heap.size, 0, none⟩) 1 1)).slice1 (k := kd1) (tx := tx1) (n := n1) (a := a1) mem0
   simp only [Q6n] at hA
   generalize World.alloc (World.setCell W _ _) _ = W' at hA ⊢
   generalize W.heap.size = Z at hA ⊢
   clear W
   rename_i W
   go_wp2_with fail
   refine hA.cPop (by rw [hlv1, Q08]; omega) ?_
   clear hA
   intro W hA
   go_wp2_with fail
   refine hA.cNeed [41] ?_
   clear hA
   intro W hA
   have hres3 := qh (Option.some.inj hres1.out)
   go_upto_region 41 with (fail)
   obtain ⟨⟨z0, z1, z2, z3, z4⟩, _⟩ := own5 (hA.loc _ mem0)
   have hR := hA.one (x := (B, z5, 24)) mem2
   have hsb := hR.blk
   have hZ := hR.setSyn (.int .i64 10) (.string ⟨List.toArray ((tk T s.i).text)⟩) (.int .i64 0) (.int .i64 (tk T s.i).pos) (.slice (some ⟨Z, 0, none⟩) 1 1)
   obtain ⟨⟨⟨q0, q1, q2, q3, q4⟩, _⟩, _, _⟩ := hZ.c5
   have hout := qh (hZ.out (k := 10) (tx := (tk T s.i).text) (n := 0) (a := (tk T s.i).pos) mem0)
   clear hR hZ hA
   go_wp21
   exact bodyPost_ret (v := .agg #[.int .i64 10, .string ⟨List.toArray ((tk T s.i).text)⟩, .int .i64 0, .int .i64 (tk T s.i).pos, .slice (some ⟨Z, 0, none⟩) 1 1]) (by simp [results, Tryz.results172, go_sem, q0, q1, q2, q3, q4]) rfl (hres3.out ▸ hout.out)
  clear hA
  intro hi1 W hA
  go_wp2_with fail
  refine hA.cIs [111, 117, 116] ?_ ?_
  rotate_left
  ·skip
   clear hA
   intro hi W hA
   replace hres := qh ((if_pos (.inr hi)).symm.trans hres.out)
   go_wp2_with fail
   refine hA.cTake ?_
   clear hA
   intro W hA
   go_wp2_with fail
   refine hA.cNeed [40] ?_
   clear hA
   intro W hA
   go_wp2_with fail
   refine hA.cPush (by rw [Qy, Qp]; exact hl) ?_
   clear hA
   intro W hA
   go_wp2_with fail
   refine hA.cRd (Lv.push _) hres.out hsum.out ?_
   clear hA
   intro kd1 tx1 n1 a1 kids1 s1 g1 m1 cp1 W hres1 hlv1 hLv1 hA
   replace hres1 := qh hres1
   obtain ⟨⟨x0, x1, x2, x3, x4⟩, x5⟩ := own5 (hA.loc _ mem0)
   have x6 := hA.lt mem0
   go_upto_region 21 with (fail)
   clear x0 x1 x2 x3 x4 x5 x6
   replace hA := (hA.set4 (.slice (some ⟨W.heap.size, 0, none⟩) 1 1)).slice1 (k := kd1) (tx := tx1) (n := n1) (a := a1) mem0
   simp only [Q6n] at hA
   generalize World.alloc (World.setCell W _ _) _ = W' at hA ⊢
   generalize W.heap.size = Z at hA ⊢
   clear W
   rename_i W
   go_wp2_with fail
   refine hA.cPop (by rw [hlv1, Q08]; omega) ?_
   clear hA
   intro W hA
   go_wp2_with fail
   refine hA.cNeed [41] ?_
   clear hA
   intro W hA
   have hres3 := qh (Option.some.inj hres1.out)
   go_upto_region 41 with (fail)
   obtain ⟨⟨z0, z1, z2, z3, z4⟩, _⟩ := own5 (hA.loc _ mem0)
   have hR := hA.one (x := (B, z5, 24)) mem2
   have hsb := hR.blk
   have hZ := hR.setSyn (.int .i64 10) (.string ⟨List.toArray ((tk T s.i).text)⟩) (.int .i64 0) (.int .i64 (tk T s.i).pos) (.slice (some ⟨Z, 0, none⟩) 1 1)
   obtain ⟨⟨⟨q0, q1, q2, q3, q4⟩, _⟩, _, _⟩ := hZ.c5
   have hout := qh (hZ.out (k := 10) (tx := (tk T s.i).text) (n := 0) (a := (tk T s.i).pos) mem0)
   clear hR hZ hA
   go_wp21
   exact bodyPost_ret (v := .agg #[.int .i64 10, .string ⟨List.toArray ((tk T s.i).text)⟩, .int .i64 0, .int .i64 (tk T s.i).pos, .slice (some ⟨Z, 0, none⟩) 1 1]) (by simp [results, Tryz.results172, go_sem, q0, q1, q2, q3, q4]) rfl (hres3.out ▸ hout.out)
  clear hA
  intro hi2 W hA
  replace hres := qh ((if_neg (by rintro (k | k); rw [hi1] at k; cases k; rw [hi2] at k; cases k)).symm.trans hres.out)
  go_wp2_with fail
  refine hA.cIs [104, 101, 97, 114, 115] ?_ ?_
  rotate_left
  ·clear hA
   intro hi W hA
   replace hres := qh ((if_pos hi).symm.trans hres.out)
   go_wp2_with fail
   refine hA.cTake ?_
   clear hA
   intro W hA
   go_wp2_with fail
   refine hA.cNeed [40] ?_
   clear hA
   intro W hA
   go_wp2_with fail
   refine hA.cPush (by rw [Qy, Qp]; exact hl) ?_
   clear hA
   intro W hA
   go_wp2_with fail
   refine hA.cRd (Lv.push _) hres.out hsum.out ?_
   clear hA
   intro kd1 tx1 n1 a1 kids1 s1 g1 m1 cp1 W hres1 hlv1 hLv1 hA
   replace hres1 := qh hres1
   go_upto_region 28 with (fail)
   replace hA := hA.alloc [.int .i64 kd1, .string ⟨List.toArray (tx1)⟩, .int .i64 n1, .int .i64 a1, .slice g1 m1 cp1] 24
   generalize W.heap.size = P at hA ⊢
   generalize World.alloc W _ = W at hA ⊢
   go_wp2_with fail
   refine hA.cNeed [44] ?_
   clear hA
   intro W hA
   go_upto_region 29 with (fail)
   have hA7 := hA.drew
   clear hA
   obtain ⟨⟨⟨l0, l1, l2, l3, l4⟩, hfl⟩, ll, -⟩ := hA7.c5
   refine' Q2s ?kka ?ffa
   case ffa =>
    intro key
    go_region_with (first
     | (refine hA7.cRd (hLv1.need) hres1.out hsum.out ?_; intro k8 tx8 n8 a8 kids8 s8 g8 m8 cp8 w8 hres8 hlv8 hLv8 hA8; obtain ⟨⟨⟨l0, l1, l2, l3, l4⟩, hfl⟩, ll, -⟩ := hA8.c5; obtain ⟨⟨x0, x1, x2, x3, x4⟩, x5⟩ := own5 (hA8.loc _ mem1); have x6 := hA8.lt mem1))
    all_goals
     have hA9 := (hA8.drop.set4 (.slice (some ⟨w8.heap.size, 0, none⟩) 2 2)).slice2 (k := kd1) (tx := tx1) (n := n1) (a := a1) (k' := k8) (tx' := tx8) (n' := n8) (a' := a8) mem1 mem0
     simp only [Q6n] at hA9
     have hA10 := hA9.weak (ts' := [([.mk (kd1) (tx1) (n1) (a1) (kids1), .mk k8 tx8 n8 a8 kids8], .slice (some ⟨w8.heap.size, 0, none⟩) 2 2)]) (fun x hx => by rw [List.mem_singleton.1 hx]; exact mem0)
     clear hA9
     generalize World.alloc (World.setCell w8 _ _) _ = w10 at hA10 ⊢
     generalize w8.heap.size = z8 at hA10 ⊢
     clear hA8 l0 l1 l2 l3 l4 hfl ll x0 x1 x2 x3 x4 x5 x6
     clear w8
     revert hA10 hres8 hlv8
     clear hLv8
     revert w10 z8 cp8 m8 g8 s8 kids8 a8 n8 tx8 k8
     exact key.out
   intro k8 tx8 n8 a8 kids8 s8 g8 m8 cp8 W z8 hres8 hlv8 hA
   replace hres8 := qh hres8
   clear hA7 l0 l1 l2 l3 l4 hfl ll
   go_wp2_with fail
   refine hA.cPop (by rw [hlv8, Qy, hlv1, Q08]; omega) ?_
   clear hA
   intro W hA
   go_wp2_with fail
   refine hA.cNeed [41] ?_
   clear hA
   intro W hA
   have hres3 := qh (Option.some.inj hres8.out)
   go_upto_region 41 with (fail)
   obtain ⟨⟨z0, z1, z2, z3, z4⟩, _⟩ := own5 (hA.loc _ mem0)
   have hR := hA.one (x := (B, z5, 24)) mem2
   have hsb := hR.blk
   have hZ := hR.setSyn (.int .i64 10) (.string ⟨List.toArray ((tk T s.i).text)⟩) (.int .i64 0) (.int .i64 (tk T s.i).pos) (.slice (some ⟨z8, 0, none⟩) 2 2)
   obtain ⟨⟨⟨q0, q1, q2, q3, q4⟩, _⟩, _, _⟩ := hZ.c5
   have hout := qh (hZ.out (k := 10) (tx := (tk T s.i).text) (n := 0) (a := (tk T s.i).pos) mem0)
   clear hR hZ hA
   go_wp21
   exact bodyPost_ret (v := .agg #[.int .i64 10, .string ⟨List.toArray ((tk T s.i).text)⟩, .int .i64 0, .int .i64 (tk T s.i).pos, .slice (some ⟨z8, 0, none⟩) 2 2]) (by simp [results, Tryz.results172, go_sem, q0, q1, q2, q3, q4]) rfl (hres3.out ▸ hout.out)
  clear hA
  intro hi W hA
  replace hres := qh ((if_neg (by rw [hi]; decide)).symm.trans hres.out)
  go_wp2_with fail
  refine hA.cIs [99, 111, 117, 110, 116] ?_ ?_
  rotate_left
  ·clear hA
   intro hi W hA
   replace hres := qh ((if_pos hi).symm.trans hres.out)
   go_wp2_with fail
   refine hA.cTake ?_
   clear hA
   intro W hA
   obtain ⟨⟨x0, x1, x2, x3, x4⟩, x5⟩ := own5 (hA.loc _ mem0)
   go_upto_region 35 with (fail)
   replace hA := hA.set0 (.int .i64 13)
   generalize World.setCell W _ _ = W at hA ⊢
   clear x0 x1 x2 x3 x4 x5
   go_wp2_with fail
   refine hA.cName ?_
   clear hA
   intro g1 m1 cp1 W hA
   go_upto_region 36 with (fail)
   replace hA := hA.alloc [.int .i64 8, .string ⟨List.toArray ((tk T (Q8 T s).i).text)⟩, .int .i64 0, .int .i64 (tk T (Q8 T s).i).pos, .slice g1 m1 cp1] 24
   generalize W.heap.size = P at hA ⊢
   generalize World.alloc W _ = W at hA ⊢
   go_wp2_with fail
   refine hA.cNeed [40] ?_
   clear hA
   intro W hA
   go_wp2_with fail
   refine hA.cPush (by rw [Qy, Q4i, Qp]; exact hl) ?_
   clear hA
   intro W hA
   go_upto_region 38 with (fail)
   have hA7 := hA.drew
   clear hA
   obtain ⟨⟨⟨l0, l1, l2, l3, l4⟩, hfl⟩, ll, -⟩ := hA7.c5
   refine' Q2s ?kkb ?ffb
   case ffb =>
    intro key
    go_region_with (first
     | (refine hA7.cRd (Lv.push _) hres.out hcond.out ?_; intro k8 tx8 n8 a8 kids8 s8 g8 m8 cp8 w8 hres8 hlv8 hLv8 hA8; obtain ⟨⟨⟨l0, l1, l2, l3, l4⟩, hfl⟩, ll, -⟩ := hA8.c5; obtain ⟨⟨x0, x1, x2, x3, x4⟩, x5⟩ := own5 (hA8.loc _ mem1); have x6 := hA8.lt mem1))
    all_goals
     have hA9 := (hA8.drop.set4 (.slice (some ⟨w8.heap.size, 0, none⟩) 2 2)).slice2 (k := 8) (tx := (tk T (Q8 T s).i).text) (n := 0) (a := (tk T (Q8 T s).i).pos) (k' := k8) (tx' := tx8) (n' := n8) (a' := a8) mem1 mem0
     simp only [Q6n] at hA9
     have hA10 := hA9.weak (ts' := [([.mk (8) ((tk T (Q8 T s).i).text) (0) ((tk T (Q8 T s).i).pos) ([]), .mk k8 tx8 n8 a8 kids8], .slice (some ⟨w8.heap.size, 0, none⟩) 2 2)]) (fun x hx => by rw [List.mem_singleton.1 hx]; exact mem0)
     clear hA9
     generalize World.alloc (World.setCell w8 _ _) _ = w10 at hA10 ⊢
     generalize w8.heap.size = z8 at hA10 ⊢
     clear hA8 l0 l1 l2 l3 l4 hfl ll x0 x1 x2 x3 x4 x5 x6
     clear w8
     revert hA10 hres8 hlv8
     clear hLv8
     revert w10 z8 cp8 m8 g8 s8 kids8 a8 n8 tx8 k8
     exact key.out
   intro k8 tx8 n8 a8 kids8 s8 g8 m8 cp8 W z8 hres8 hlv8 hA
   replace hres8 := qh hres8
   clear hA7 l0 l1 l2 l3 l4 hfl ll
   go_wp2_with fail
   refine hA.cPop (by rw [hlv8, Q08]; omega) ?_
   clear hA
   intro W hA
   go_wp2_with fail
   refine hA.cNeed [41] ?_
   clear hA
   intro W hA
   have hres3 := qh (Option.some.inj hres8.out)
   go_upto_region 41 with (fail)
   obtain ⟨⟨z0, z1, z2, z3, z4⟩, _⟩ := own5 (hA.loc _ mem0)
   have hR := hA.one (x := (B, z5, 24)) mem2
   have hsb := hR.blk
   have hZ := hR.setSyn (.int .i64 13) (.string ⟨List.toArray ((tk T s.i).text)⟩) (.int .i64 0) (.int .i64 (tk T s.i).pos) (.slice (some ⟨z8, 0, none⟩) 2 2)
   obtain ⟨⟨⟨q0, q1, q2, q3, q4⟩, _⟩, _, _⟩ := hZ.c5
   have hout := qh (hZ.out (k := 13) (tx := (tk T s.i).text) (n := 0) (a := (tk T s.i).pos) mem0)
   clear hR hZ hA
   go_wp21
   exact bodyPost_ret (v := .agg #[.int .i64 13, .string ⟨List.toArray ((tk T s.i).text)⟩, .int .i64 0, .int .i64 (tk T s.i).pos, .slice (some ⟨z8, 0, none⟩) 2 2]) (by simp [results, Tryz.results172, go_sem, q0, q1, q2, q3, q4]) rfl (hres3.out ▸ hout.out)
  clear hA
  intro hi W hA
  have hres3 := qh (Option.some.inj ((if_neg (by rw [hi]; decide)).symm.trans hres.out))
  go_wp2_with fail
  refine hA.cFail 4 (by decide) ?_
  clear hA
  intro W hA
  go_upto_region 41 with (fail)
  obtain ⟨⟨z0, z1, z2, z3, z4⟩, _⟩ := own5 (hA.loc _ mem0)
  have hR := hA.one (x := (B, z5, 24)) mem2
  have hsb := hR.blk
  have hZ := hR.setSyn (.int .i64 10) (.string ⟨List.toArray ((tk T s.i).text)⟩) (.int .i64 0) (.int .i64 (tk T s.i).pos) (.slice none 0 0)
  obtain ⟨⟨⟨q0, q1, q2, q3, q4⟩, _⟩, _, _⟩ := hZ.c5
  have hout := qh (hZ.out (k := 10) (tx := (tk T s.i).text) (n := 0) (a := (tk T s.i).pos) mem0)
  clear hR hZ hA
  go_wp21
  exact bodyPost_ret (v := .agg #[.int .i64 10, .string ⟨List.toArray ((tk T s.i).text)⟩, .int .i64 0, .int .i64 (tk T s.i).pos, .slice none 0 0]) (by simp [results, Tryz.results172, go_sem, q0, q1, q2, q3, q4]) rfl (hres3.out ▸ hout.out)
 ·-- behind an error
  have hb : (s.er != 0) = true := by rw [bne_iff_ne]; exact h0
  have hres3 := qh (Option.some.inj ((if_pos h0).symm.trans hres.out))
  replace h0 := qh h0
  have hout := qh (hA.leaf.out (k := 0) (tx := []) (n := 0) (a := 0) (List.mem_cons_self ..))
  go_enter Tryz.func172, Tryz.ntmps172
  go_wp2_with fail
  exact bodyPost_ret (v := .agg #[.int .i64 0, .string ⟨#[]⟩, .int .i64 0, .int .i64 0, .slice none 0 0]) (by simp [results, Tryz.results172, go_sem]) rfl (hres3.out ▸ hout.out)
end
end Go.Proofs.YtplbfmcgddnkeaaGreatDoor
