/- Walks of functions, and plain facts. -/
import Derived.Test.YtplbfmcgddnkeaaGreatDoorC39
set_option linter.unusedVariables false
set_option linter.unusedSimpArgs false
set_option maxHeartbeats 20000000
set_option maxRecDepth 100000
namespace Go.Proofs.YtplbfmcgddnkeaaGreatDoor
open Go.RowKit
section
attribute [local go_sem ↓] Go.wp_at_zero Go.wp_at_succ
attribute [local go_sem ↓] Q48
def Qbp (pb tb c B M N : Nat) (T : List Tok) (tc : List Value) (p : Int) (w : World) (o : Syn × St) (g : Nat) (wr : World) : Prop :=
 ∃ ks ga kc s, ks.length + g ≤ T.length + 4 ∧ AtR pb tb c T w [(N, [.int .i64 14, .string ⟨#[]⟩, .int .i64 0, .int .i64 p, .slice ga ks.length kc], 24), (M, tc, 45), (B, z5, 24)] [] (ks, .slice ga ks.length kc) s wr ∧
  ((Q2v T g ks s).bind fun q => some (Syn.mk 14 [] 0 p q.1, Q7 T [125] q.2)) = some o
theorem Qbq (pb tb c : Nat) (T : List Tok) (s : St) (w : World) (o : Syn × St) (h : PR pb tb c T s w) (hres : mSet T s = some o) :
  Calls Tryz.prog 210 #[.pointer (some ⟨pb, 0, none⟩)] w (ROut pb tb c T w o.1 o.2) := by
 have hA := (AtR.begin h).alloc z5 24
 have hsz := h.size
 unfold mSet at hres
 replace hres := qh hres
 clear h
 go_enter Tryz.func210, Tryz.ntmps210
 go_wp2_with fail
 generalize w.heap.size = B at hA ⊢
 refine hA.cTok ?_
 clear hA
 try clear d0 d1 d2 d3 d4 f0
 intro W hA
 go_upto_region 2 with (fail)
 replace hA := hA.alloc [.int .i64 (tk T s.i).kind, .string ⟨(tk T s.i).text.toArray⟩, .int .i64 (tk T s.i).pos] 45
 generalize W.heap.size = M at hA ⊢
 generalize World.alloc W _ = W at hA ⊢
 obtain ⟨⟨y0, y1, y2⟩, _⟩ := own3 (hA.loc _ mem0)
 go_upto_region 3 with (fail)
 replace hA := hA.alloc [.int .i64 14, .string ⟨#[]⟩, .int .i64 0, .int .i64 (tk T s.i).pos, .slice none 0 0] 24
 generalize W.heap.size = N at hA ⊢
 generalize World.alloc W _ = W at hA ⊢
 clear y0 y1 y2
 generalize hpp : (tk T s.i).pos = p at hres hA ⊢
 clear hpp
 go_wp2_with fail
 refine hA.cIs [101, 118, 101, 114, 121, 111, 110, 101] ?_ ?_
 rotate_left
 ·clear hA
  intro hi W hA
  have hres3 := qh (Option.some.inj ((if_pos hi).symm.trans hres.out))
  go_wp2_with fail
  refine hA.cTake ?_
  clear hA
  intro W hA
  obtain ⟨⟨x0, x1, x2, x3, x4⟩, x5⟩ := own5 (hA.loc _ mem0)
  have x6 := hA.lt mem0
  go_upto_region 6 with (fail)
  replace hA := (hA.set1 (.string ⟨List.toArray [101, 118, 101, 114, 121, 111, 110, 101]⟩)).leaf
  generalize World.setCell W _ _ = W at hA ⊢
  clear x0 x1 x2 x3 x4 x5 x6
  obtain ⟨⟨z0, z1, z2, z3, z4⟩, _⟩ := own5 (hA.loc _ mem0)
  have hR := hA.one (x := (B, z5, 24)) mem2
  have hsb := hR.blk
  have hZ := hR.setSyn (.int .i64 14) (.string ⟨List.toArray ([101, 118, 101, 114, 121, 111, 110, 101])⟩) (.int .i64 0) (.int .i64 p) (.slice none 0 0)
  obtain ⟨⟨⟨q0, q1, q2, q3, q4⟩, _⟩, _, _⟩ := hZ.c5
  have hout := qh (hZ.out (k := 14) (tx := [101, 118, 101, 114, 121, 111, 110, 101]) (n := 0) (a := p) mem0)
  clear hR hZ hA
  go_wp21
  exact bodyPost_ret (v := .agg #[.int .i64 14, .string ⟨List.toArray ([101, 118, 101, 114, 121, 111, 110, 101])⟩, .int .i64 0, .int .i64 p, .slice none 0 0]) (by simp [results, Tryz.results210, go_sem, q0, q1, q2, q3, q4]) rfl (hres3.out ▸ hout.out)
 clear hA
 intro hi W hA
 replace hres := qh ((if_neg (by rw [hi]; decide)).symm.trans hres.out)
 go_wp2_with fail
 refine hA.cNeed [123] ?_
 clear hA
 intro W hA
 generalize hs1 : Q7 T [123] s = s1 at hres hA ⊢
 obtain ⟨d0, d1, d2, d3, d4⟩ := hA.ps.cells
 by_cases h1 : s1.er = 0
 ·have hb1 : (s1.er == 0) = true := by rw [beq_iff_eq]; exact h1
  replace h1 := qh h1
  go_wp2_with fail
  refine hA.cIs [125] ?_ ?_
  rotate_left
  ·clear hA d0 d1 d2 d3 d4
   intro hi W hA
   have hres3 := qh (Option.some.inj ((if_neg (fun k => by rw [hi] at k; cases k.2)).symm.trans hres.out))
   go_wp2_with fail
   refine hA.cNeed [125] ?_
   clear hA
   intro W hA
   go_upto_region 14 with (fail)
   replace hA := hA.close
   obtain ⟨⟨z0, z1, z2, z3, z4⟩, _⟩ := own5 (hA.loc _ mem0)
   have hR := hA.one (x := (B, z5, 24)) mem2
   have hsb := hR.blk
   have hZ := hR.setSyn (.int .i64 14) (.string ⟨List.toArray ([])⟩) (.int .i64 0) (.int .i64 p) (.slice none 0 0)
   obtain ⟨⟨⟨q0, q1, q2, q3, q4⟩, _⟩, _, _⟩ := hZ.c5
   have hout := qh (hZ.out (k := 14) (tx := []) (n := 0) (a := p) mem0)
   clear hR hZ hA
   go_wp21
   exact bodyPost_ret (v := .agg #[.int .i64 14, .string ⟨List.toArray ([])⟩, .int .i64 0, .int .i64 p, .slice none 0 0]) (by simp [results, Tryz.results210, go_sem, q0, q1, q2, q3, q4]) rfl (hres3.out ▸ hout.out)
  clear hA d0 d1 d2 d3 d4
  intro hi W hA
  replace hres := qh ((if_pos ⟨h1.out, hi⟩).symm.trans hres.out)
  go_upto_region 9 with (fail)
  have hA10 := hA.drew
  have hc10 := hA10.c5
  refine' Q2s ?kka ?ffa
  case ffa =>
   intro key
   go_region_with (first
    | (go_at_call 86; refine hA10.cNumber ?_; intro g2 m2 cp2 w11 hA11; have hc11 := hA11.c5)
    | (refine AtR.stepApp' (hA11.junk _) (by simp) (List.mem_cons_self ..) (heap_alloc_new _ _) (by rfl) (by rfl) (by rfl) (by rfl) ?_; intro g12 cap12 w12 hA12; have hc12 := hA12.c5))
   all_goals
    have hA13 := hA12.set4 (.slice (some ⟨g12, 0, none⟩) (1) cap12)
    generalize World.setCell w12 _ _ = w13 at hA13 ⊢
    clear hA11 hA12 hc12 hc11
    generalize Value.slice (some { block := w11.heap.size, off := 0 }) 1 1 = s22 at ⊢
    clear w11 w12
    revert hA13
    revert w13
    revert s22
    revert g12
    revert cap12
    revert cp2 m2 g2
    exact key.out
  intro g2 m2 cp2 cap12 g12 s22 W hA
  clear hA10 hc10
  have hinv := qh (show Qbp pb tb c B M N T _ p w o (T.length + 2) W from ⟨[.mk 9 [] (mVal (tk T s1.i).text) (tk T s1.i).pos []], some ⟨g12, 0, none⟩, cap12, _, by simp; omega, hA.weak (fun _ h => (List.not_mem_nil h).elim), hres.out⟩)
  clear hA hres
  go_wp2_with fail
  go_loopg [35] (T.length + 2) (fun g _ wr => Qbp pb tb c B M N T _ p w o g wr)
  case atStart => exact hinv.out
  case round =>
   obtain ⟨ks, ga, kc, s2, hlen, hA, hres⟩ := hrel
   obtain ⟨g', rfl⟩ : ∃ g', gk = g' + 1 := by
    cases gk with
    | zero => cases hres
    | succ g' => exact ⟨g', rfl⟩
   rw [Q2v] at hres
   replace hres := qh hres
   clear hinv
   have hle : ks.length ≤ 1000000 := by omega
   obtain ⟨d0, d1, d2, d3, d4⟩ := hA.ps.cells
   by_cases h2 : s2.er = 0
   ·have hb2 : (s2.er == 0) = true := by rw [beq_iff_eq]; exact h2
    replace h2 := qh h2
    go_wp2_with fail
    refine hA.cIs [44] ?_ ?_
    ·clear hA d0 d1 d2 d3 d4
     intro hi W hA
     have hres3 := hres.out
     rw [if_neg (fun k => by rw [hi] at k; cases k.2)] at hres3
     replace hres3 := qh (Option.some.inj hres3)
     go_wp2_with fail
     refine hA.cNeed [125] ?_
     clear hA
     intro W hA
     go_upto_region 14 with (fail)
     replace hA := hA.close
     obtain ⟨⟨z0, z1, z2, z3, z4⟩, _⟩ := own5 (hA.loc _ mem0)
     have hR := hA.one (x := (B, z5, 24)) mem2
     have hsb := hR.blk
     have hZ := hR.setSyn (.int .i64 14) (.string ⟨List.toArray ([])⟩) (.int .i64 0) (.int .i64 p) (.slice ga ks.length kc)
     obtain ⟨⟨⟨q0, q1, q2, q3, q4⟩, _⟩, _, _⟩ := hZ.c5
     have hout := qh (hZ.out (k := 14) (tx := []) (n := 0) (a := p) mem0)
     clear hR hZ hA
     go_wp21
     exact bodyPost_ret (v := .agg #[.int .i64 14, .string ⟨List.toArray ([])⟩, .int .i64 0, .int .i64 p, .slice ga ks.length kc]) (by simp [results, Tryz.results210, go_sem, q0, q1, q2, q3, q4]) rfl (hres3.out ▸ hout.out)
    ·clear hA d0 d1 d2 d3 d4
     intro hi W hA
     have hres2 := hres.out
     rw [if_pos ⟨h2.out, hi⟩] at hres2
     replace hres2 := qh hres2
     clear hres
     go_wp2_with fail
     refine hA.cTake ?_
     clear hA
     intro W hA
     go_upto_region 12 with (fail)
     have hA10 := hA.drew
     have hc10 := hA10.c5
     refine' Q2s ?kkb ?ffb
     case ffb =>
      intro key
      go_region_with (first
       | (go_at_call 86; refine hA10.cNumber ?_; intro g2 m2 cp2 w11 hA11; have hc11 := hA11.c5)
       | (refine AtR.stepApp' (hA11.junk _) hle (List.mem_cons_self ..) (heap_alloc_new _ _) (by rfl) (by rfl) (by rfl) (by rfl) ?_; intro g12 cap12 w12 hA12; have hc12 := hA12.c5))
      all_goals
       have hA13 := hA12.set4 (.slice (some ⟨g12, 0, none⟩) (ks.length + 1) cap12)
       generalize World.setCell w12 _ _ = w13 at hA13 ⊢
       clear hA11 hA12 hc12 hc11
       generalize Value.slice (some { block := w11.heap.size, off := 0 }) 1 1 = s22 at ⊢
       clear w11 w12
       revert hA13
       revert w13
       revert s22
       revert g12
       revert cap12
       revert cp2 m2 g2
       exact key.out
     intro g2 m2 cp2 cap12 g12 s22 W hA
     clear hA10 hc10
     have hI := qh (show Qbp pb tb c B M N T _ p w o g' W from ⟨ks ++ [.mk 9 [] (mVal (tk T (Q8 T s2).i).text) (tk T (Q8 T s2).i).pos []], some ⟨g12, 0, none⟩, cap12, _, by simp; omega, by simpa using hA.weak (ts' := []) (fun _ h => (List.not_mem_nil h).elim), hres2.out⟩)
     clear hA hres2
     go_wp2_with fail
     go_roundg g'
     case measure => omega
     case rel => exact hI.out
   ·have hb2 : (s2.er == 0) = false := by rw [beq_eq_false_iff_ne]; exact h2
    have hres3 := hres.out
    rw [if_neg (fun k => h2 k.1)] at hres3
    replace hres3 := qh (Option.some.inj hres3)
    replace h2 := qh h2
    go_wp2_with fail
    refine hA.cNeed [125] ?_
    clear hA
    intro W hA
    go_upto_region 14 with (fail)
    replace hA := hA.close
    obtain ⟨⟨z0, z1, z2, z3, z4⟩, _⟩ := own5 (hA.loc _ mem0)
    have hR := hA.one (x := (B, z5, 24)) mem2
    have hsb := hR.blk
    have hZ := hR.setSyn (.int .i64 14) (.string ⟨List.toArray ([])⟩) (.int .i64 0) (.int .i64 p) (.slice ga ks.length kc)
    obtain ⟨⟨⟨q0, q1, q2, q3, q4⟩, _⟩, _, _⟩ := hZ.c5
    have hout := qh (hZ.out (k := 14) (tx := []) (n := 0) (a := p) mem0)
    clear hR hZ hA
    go_wp21
    exact bodyPost_ret (v := .agg #[.int .i64 14, .string ⟨List.toArray ([])⟩, .int .i64 0, .int .i64 p, .slice ga ks.length kc]) (by simp [results, Tryz.results210, go_sem, q0, q1, q2, q3, q4]) rfl (hres3.out ▸ hout.out)
 ·have hb1 : (s1.er == 0) = false := by rw [beq_eq_false_iff_ne]; exact h1
  have hres3 := qh (Option.some.inj ((if_neg (fun k => h1 k.1)).symm.trans hres.out))
  replace h1 := qh h1
  go_wp2_with fail
  refine hA.cNeed [125] ?_
  clear hA
  intro W hA
  go_upto_region 14 with (fail)
  replace hA := hA.close
  obtain ⟨⟨z0, z1, z2, z3, z4⟩, _⟩ := own5 (hA.loc _ mem0)
  have hR := hA.one (x := (B, z5, 24)) mem2
  have hsb := hR.blk
  have hZ := hR.setSyn (.int .i64 14) (.string ⟨List.toArray ([])⟩) (.int .i64 0) (.int .i64 p) (.slice none 0 0)
  obtain ⟨⟨⟨q0, q1, q2, q3, q4⟩, _⟩, _, _⟩ := hZ.c5
  have hout := qh (hZ.out (k := 14) (tx := []) (n := 0) (a := p) mem0)
  clear hR hZ hA
  go_wp21
  exact bodyPost_ret (v := .agg #[.int .i64 14, .string ⟨List.toArray ([])⟩, .int .i64 0, .int .i64 p, .slice none 0 0]) (by simp [results, Tryz.results210, go_sem, q0, q1, q2, q3, q4]) rfl (hres3.out ▸ hout.out)
end
section
attribute [local go_sem ↓] Go.wp_at_zero Go.wp_at_succ
def Qgq (pb tb c : Nat) (T : List Tok) (w : List UInt8) (fo : MRd) : Prop := ∀ W s l s', PR pb tb c T s W → Lv s → Q06 T fo w s = some (l, s') →
 Calls Tryz.prog 196 #[.pointer (some ⟨pb, 0, none⟩), .string ⟨w.toArray⟩] W fun r w' => Only pb W w' ∧ (∃ v, r = .returned v ∧ KidsAt (Fr W.heap.size) w' l v) ∧ PR pb tb c T s' w'
theorem Qnj (pb tb c f : Nat) (T : List Tok) (s : St) (w : World) (o : Syn × St) (h : PR pb tb c T s w) (hlv : Lv s)
  (hlit : RdM pb tb c T 174 #[.pointer (some ⟨pb, 0, none⟩)] (mrd Q0 T f .lit))
  (hfor : RdM pb tb c T 47 #[.pointer (some ⟨pb, 0, none⟩)] (mrd Q0 T f .formula))
  (hargs : ∀ w, Qgq pb tb c T w (mrd Q0 T f .formula))
  (hres : mrd Q0 T (f + 1) .lit s = some o) : Calls Tryz.prog 174 #[.pointer (some ⟨pb, 0, none⟩)] w (ROut pb tb c T w o.1 o.2) := by
 have hA := (AtR.begin h).alloc z5 24
 obtain ⟨d0, d1, d2, d3, d4⟩ := h.cells
 have hpos := h.pos
 have f0 := h.frozen
 rw [mrd] at hres
 dsimp only at hres
 replace hres := qh hres
 clear h
 replace hlit := qh hlit
 replace hfor := qh hfor
 replace hargs := qh hargs
 by_cases h0 : s.er = 0
 ·skip
  have hb : (s.er != 0) = false := by rw [bne_eq_false_iff_eq]; exact h0
  replace hres := qh ((if_neg (fun k => k h0)).symm.trans hres.out)
  have hl := hlv h0
  replace h0 := qh h0
  go_enter Tryz.func174, Tryz.ntmps174
  go_wp2_with fail
  generalize w.heap.size = B at hA ⊢
  refine hA.cTok ?_
  clear hA
  try clear d0 d1 d2 d3 d4 f0
  intro W hA
  go_upto_region 4 with (fail)
  replace hA := hA.alloc [.int .i64 (tk T s.i).kind, .string ⟨(tk T s.i).text.toArray⟩, .int .i64 (tk T s.i).pos] 45
  generalize W.heap.size = M at hA ⊢
  generalize World.alloc W _ = W at hA ⊢
  obtain ⟨⟨y0, y1, y2⟩, _⟩ := own3 (hA.loc _ mem0)
  go_upto_region 6 with (fail)
  replace hA := hA.leaf.alloc [.int .i64 10, .string ⟨(tk T s.i).text.toArray⟩, .int .i64 0, .int .i64 (tk T s.i).pos, .slice none 0 0] 24
  generalize W.heap.size = N at hA ⊢
  generalize World.alloc W _ = W at hA ⊢
  clear y0 y1 y2
  go_wp2_with fail
  refine hA.cIs [110, 111, 116] ?_ ?_
  rotate_left
  ·clear hA
   intro hi W hA
   replace hres := qh ((if_pos hi).symm.trans hres.out)
   go_wp2_with fail
   refine hA.cTake ?_
   clear hA
   intro W hA
   go_wp2_with fail
   refine hA.cPush (by rw [Qp]; exact hl) ?_
   clear hA
   intro W hA
   go_wp2_with fail
   refine hA.cRd (Lv.push _) hres.out hlit.out ?_
   clear hA
   intro kd1 tx1 n1 a1 kids1 s1 g1 m1 cp1 W hres1 hlv1 hLv1 hA
   replace hres1 := qh hres1
   go_upto_region 10 with (fail)
   replace hA := hA.alloc [.int .i64 kd1, .string ⟨List.toArray (tx1)⟩, .int .i64 n1, .int .i64 a1, .slice g1 m1 cp1] 24
   generalize W.heap.size = P at hA ⊢
   generalize World.alloc W _ = W at hA ⊢
   go_wp2_with fail
   refine hA.cPop (by rw [hlv1, Q08]; omega) ?_
   clear hA
   intro W hA
   go_upto_region 11 with (fail)
   obtain ⟨⟨x0, x1, x2, x3, x4⟩, _⟩ := own5 (hA.loc _ mem0)
   obtain ⟨⟨y0, y1, y2⟩, _⟩ := own3 (hA.loc _ mem2)
   replace hA := hA.slice1 (k := kd1) (tx := tx1) (n := n1) (a := a1) mem0
   have hres3 := qh (Option.some.inj hres1.out)
   have hsb := (hA.one mem3).blk
   have hR := hA.one (x := (B, z5, 24)) mem3
   have hsb := hR.blk
   have hZ := hR.setSyn (.int .i64 12) (.string ⟨List.toArray ([])⟩) (.int .i64 0) (.int .i64 (tk T s.i).pos) (.slice (some ⟨W.heap.size, 0, none⟩) 1 1)
   obtain ⟨⟨⟨q0, q1, q2, q3, q4⟩, _⟩, _, _⟩ := hZ.c5
   have hout := qh (hZ.out (k := 12) (tx := []) (n := 0) (a := (tk T s.i).pos) mem0)
   clear hR hZ hA
   go_wp21
   exact bodyPost_ret (v := .agg #[.int .i64 12, .string ⟨List.toArray ([])⟩, .int .i64 0, .int .i64 (tk T s.i).pos, .slice (some ⟨W.heap.size, 0, none⟩) 1 1]) (by simp [results, Tryz.results174, go_sem, q0, q1, q2, q3, q4]) rfl (hres3.out ▸ hout.out)
  clear hA
  intro hi W hA
  replace hres := qh ((if_neg (by rw [show isW T [kNot] s.i = false from hi]; decide)).symm.trans hres.out)
  go_wp2_with fail
  refine hA.cIs [116, 114, 117, 101] ?_ ?_
  rotate_left
  ·clear hA
   intro hi W hA
   have hres3 := qh (Option.some.inj ((if_pos hi).symm.trans hres.out))
   go_wp2_with fail
   refine hA.cTake ?_
   clear hA
   intro W hA
   go_upto_region 27 with (fail)
   obtain ⟨⟨z0, z1, z2, z3, z4⟩, _⟩ := own5 (hA.loc _ mem0)
   have hR := hA.one (x := (B, z5, 24)) mem2
   have hsb := hR.blk
   have hZ := hR.setSyn (.int .i64 10) (.string ⟨List.toArray ((tk T s.i).text)⟩) (.int .i64 0) (.int .i64 (tk T s.i).pos) (.slice none 0 0)
   obtain ⟨⟨⟨q0, q1, q2, q3, q4⟩, _⟩, _, _⟩ := hZ.c5
   have hout := qh (hZ.out (k := 10) (tx := (tk T s.i).text) (n := 0) (a := (tk T s.i).pos) mem0)
   clear hR hZ hA
   go_wp21
   exact bodyPost_ret (v := .agg #[.int .i64 10, .string ⟨List.toArray ((tk T s.i).text)⟩, .int .i64 0, .int .i64 (tk T s.i).pos, .slice none 0 0]) (by simp [results, Tryz.results174, go_sem, q0, q1, q2, q3, q4]) rfl (hres3.out ▸ hout.out)
  clear hA
  intro hi W hA
  replace hres := qh ((if_neg (by rw [hi]; decide)).symm.trans hres.out)
  go_wp2_with fail
  refine hA.cIs [40] ?_ ?_
  rotate_left
  ·clear hA
   intro hi W hA
   replace hres := qh ((if_pos hi).symm.trans hres.out)
   go_wp2_with fail
   refine hA.cTake ?_
   clear hA
   intro W hA
   go_wp2_with fail
   refine hA.cPush (by rw [Qp]; exact hl) ?_
   clear hA
   intro W hA
   go_wp2_with fail
   refine hA.cRd (Lv.push _) hres.out hfor.out ?_
   clear hA
   intro kd1 tx1 n1 a1 kids1 s1 g1 m1 cp1 W hres1 hlv1 hLv1 hA
   replace hres1 := qh hres1
   have hsb := hA.blk
   go_upto_region 18 with (fail)
   replace hA := hA.setSyn (.int .i64 kd1) (.string ⟨List.toArray (tx1)⟩) (.int .i64 n1) (.int .i64 a1) (.slice g1 m1 cp1)
   generalize setSyn W _ _ _ _ _ _ = W at hA ⊢
   go_wp2_with fail
   refine hA.cPop (by rw [hlv1, Q08]; omega) ?_
   clear hA
   intro W hA
   go_wp2_with fail
   refine hA.cNeed [41] ?_
   clear hA
   intro W hA
   have hres3 := qh (Option.some.inj hres1.out)
   go_upto_region 27 with (fail)
   obtain ⟨⟨z0, z1, z2, z3, z4⟩, _⟩ := own5 (hA.loc _ mem0)
   have hR := hA.one (x := (B, z5, 24)) mem2
   have hsb := hR.blk
   have hZ := hR.setSyn (.int .i64 kd1) (.string ⟨List.toArray (tx1)⟩) (.int .i64 n1) (.int .i64 a1) (.slice g1 m1 cp1)
   obtain ⟨⟨⟨q0, q1, q2, q3, q4⟩, _⟩, _, _⟩ := hZ.c5
   have hout := qh (hZ.out (k := kd1) (tx := tx1) (n := n1) (a := a1) mem0)
   clear hR hZ hA
   go_wp21
   exact bodyPost_ret (v := .agg #[.int .i64 kd1, .string ⟨List.toArray (tx1)⟩, .int .i64 n1, .int .i64 a1, .slice g1 m1 cp1]) (by simp [results, Tryz.results174, go_sem, q0, q1, q2, q3, q4]) rfl (hres3.out ▸ hout.out)
  clear hA
  intro hi W hA
  replace hres := qh ((if_neg (by rw [hi]; decide)).symm.trans hres.out)
  go_wp2_with fail
  refine hA.cAmong [[105, 110, 112, 117, 116], [104, 101, 97, 114, 100], [100, 101, 99, 105, 100, 101, 100], [103, 105, 118, 101, 110], [102, 97, 117, 108, 116, 121], [97, 116], [75], [69], [68], [67], [110, 101, 120, 116], [97, 108, 119, 97, 121, 115], [101, 118, 101, 110, 116, 117, 97, 108, 108, 121]] (by decide) rfl rfl rfl ?_ ?_
  rotate_left
  ·clear hA
   intro hi W hA
   replace hres := qh ((if_pos hi).symm.trans hres.out)
   go_wp2_with fail
   refine hA.cTake ?_
   clear hA
   intro W hA
   go_wp2_with fail
   refine hA.cNeed [40] ?_
   clear hA
   intro W hA
   go_wp2_with fail
   refine hA.cPush (by rw [Qy, Qp]; exact hl) ?_
   clear hA
   intro W hA
   obtain ⟨⟨y0, y1, y2⟩, _⟩ := own3 (hA.loc _ mem1)
   go_wp2_with fail
   obtain ⟨⟨l, s1⟩, hr1, hr2⟩ := Option.bind_eq_some_iff.1 hres.out
   have hlv1 := (Qem (Q8a f .formula) _ _ _ _ hr1).1
   have hres3 := qh (Option.some.inj hr2)
   refine (hargs.out _ W _ l s1 hA.ps (Lv.push _) hr1).mono ?_
   rintro r W2 ⟨ho, ⟨v, rfl, hk⟩, hp⟩
   replace hA := hA.callT ho hp hk
   clear y0 y1 y2 ho hp hk hr1 hr2
   obtain ⟨g1, m1, cp1, rfl⟩ := (hA.tr _ mem0).shape
   obtain ⟨⟨x0, x1, x2, x3, x4⟩, x5⟩ := own5 (hA.loc _ mem0)
   have x6 := hA.lt mem0
   go_upto_region 25 with (fail)
   replace hA := hA.set4 (.slice g1 m1 cp1)
   clear x0 x1 x2 x3 x4 x5 x6
   generalize World.setCell W2 _ _ = W at hA ⊢
   go_wp2_with fail
   refine hA.cPop (by rw [hlv1, Q08]; omega) ?_
   clear hA
   intro W hA
   go_wp2_with fail
   refine hA.cNeed [41] ?_
   clear hA
   intro W hA
   go_upto_region 27 with (fail)
   obtain ⟨⟨z0, z1, z2, z3, z4⟩, _⟩ := own5 (hA.loc _ mem0)
   have hR := hA.one (x := (B, z5, 24)) mem2
   have hsb := hR.blk
   have hZ := hR.setSyn (.int .i64 10) (.string ⟨List.toArray ((tk T s.i).text)⟩) (.int .i64 0) (.int .i64 (tk T s.i).pos) (.slice g1 m1 cp1)
   obtain ⟨⟨⟨q0, q1, q2, q3, q4⟩, _⟩, _, _⟩ := hZ.c5
   have hout := qh (hZ.out (k := 10) (tx := (tk T s.i).text) (n := 0) (a := (tk T s.i).pos) mem0)
   clear hR hZ hA
   go_wp21
   exact bodyPost_ret (v := .agg #[.int .i64 10, .string ⟨List.toArray ((tk T s.i).text)⟩, .int .i64 0, .int .i64 (tk T s.i).pos, .slice g1 m1 cp1]) (by simp [results, Tryz.results174, go_sem, q0, q1, q2, q3, q4]) rfl (hres3.out ▸ hout.out)
  clear hA
  intro hi W hA
  have hres3 := qh (Option.some.inj ((if_neg (by rw [hi]; decide)).symm.trans hres.out))
  go_wp2_with fail
  refine hA.cFail 4 (by decide) ?_
  clear hA
  intro W hA
  go_upto_region 27 with (fail)
  obtain ⟨⟨z0, z1, z2, z3, z4⟩, _⟩ := own5 (hA.loc _ mem0)
  have hR := hA.one (x := (B, z5, 24)) mem2
  have hsb := hR.blk
  have hZ := hR.setSyn (.int .i64 10) (.string ⟨List.toArray ((tk T s.i).text)⟩) (.int .i64 0) (.int .i64 (tk T s.i).pos) (.slice none 0 0)
  obtain ⟨⟨⟨q0, q1, q2, q3, q4⟩, _⟩, _, _⟩ := hZ.c5
  have hout := qh (hZ.out (k := 10) (tx := (tk T s.i).text) (n := 0) (a := (tk T s.i).pos) mem0)
  clear hR hZ hA
  go_wp21
  exact bodyPost_ret (v := .agg #[.int .i64 10, .string ⟨List.toArray ((tk T s.i).text)⟩, .int .i64 0, .int .i64 (tk T s.i).pos, .slice none 0 0]) (by simp [results, Tryz.results174, go_sem, q0, q1, q2, q3, q4]) rfl (hres3.out ▸ hout.out)
 ·-- behind an error
  have hb : (s.er != 0) = true := by rw [bne_iff_ne]; exact h0
  have hres3 := qh (Option.some.inj ((if_pos h0).symm.trans hres.out))
  replace h0 := qh h0
  have hout := qh (hA.leaf.out (k := 0) (tx := []) (n := 0) (a := 0) (List.mem_cons_self ..))
  go_enter Tryz.func174, Tryz.ntmps174
  go_wp2_with fail
  exact bodyPost_ret (v := .agg #[.int .i64 0, .string ⟨#[]⟩, .int .i64 0, .int .i64 0, .slice none 0 0]) (by simp [results, Tryz.results174, go_sem]) rfl (hres3.out ▸ hout.out)
end
section
attribute [local go_sem ↓] Go.wp_at_zero Go.wp_at_succ
def LOut (pb tb c : Nat) (T : List Tok) (w : World) (l : List Syn) (s' : St) (r : Ending) (w' : World) : Prop := Only pb w w' ∧ (∃ v, r = .returned v ∧ KidsAt (Fr w.heap.size) w' l v) ∧ PR pb tb c T s' w'
theorem AtR.lout {pb tb c : Nat} {T : List Tok} {w0 W : World} {L : List Loc} {ts : List (List Syn × Value)} {rs : List Syn × Value} {s : St} {l : List Syn} {v : Value} (h : AtR pb tb c T w0 L ts rs s W) (hm : (l, v) ∈ ts) : LOut pb tb c T w0 l s (.returned v) W :=
 ⟨h.only, ⟨v, rfl, (h.tr _ hm).keep (Keep.refl _ _) fun _ h => h.1⟩, h.ps⟩
theorem Qk5 (pb tb c : Nat) (T : List Tok) (fo : MRd) (s : St) (w : World) (o : List Syn × St) (h : PR pb tb c T s w) (hlv : Lv s) (hfor : RdM pb tb c T 47 #[.pointer (some ⟨pb, 0, none⟩)] fo)
  (hres : Q06 T fo [105, 110, 112, 117, 116] s = some o) : Calls Tryz.prog 196 #[.pointer (some ⟨pb, 0, none⟩), .string ⟨List.toArray ([105, 110, 112, 117, 116])⟩] w (LOut pb tb c T w o.1 o.2) := by
 have hA := AtR.begin h
 unfold Q06 at hres
 rw [if_pos (by decide)] at hres
 replace hres := qh hres
 replace hfor := qh hfor
 clear h
 go_enter Tryz.func196, Tryz.ntmps196
 go_wp2_with fail
 refine hA.cNumber ?_
 clear hA
 intro g1 m1 cp1 W hA
 go_upto_region 6 with (fail)
 replace hA := hA.alloc [.int .i64 9, .string ⟨List.toArray ([])⟩, .int .i64 (mVal (tk T s.i).text), .int .i64 (tk T s.i).pos, .slice g1 m1 cp1] 24
 generalize W.heap.size = P at hA ⊢
 generalize World.alloc W _ = W at hA ⊢
 go_wp2_with fail
 refine hA.cNeed [44] ?_
 clear hA
 intro W hA
 go_upto_region 7 with (fail)
 have hA7 := hA.drew
 clear hA
 obtain ⟨⟨⟨l0, l1, l2, l3, l4⟩, hfl⟩, ll, -⟩ := hA7.c5
 go_region_with (refine hA7.cNumber ?_; intro g2 m2 cp2 W8 hA8; obtain ⟨⟨⟨l0, l1, l2, l3, l4⟩, hfl⟩, ll, -⟩ := hA8.c5)
 all_goals
  have hA9 := hA8.slice2 (k := 9) (tx := []) (n := (mVal (tk T s.i).text)) (a := (tk T s.i).pos) (k' := 9) (tx' := []) (n' := (mVal (tk T (Q7 T [44] (Qd T s).2).i).text)) (a' := (tk T (Q7 T [44] (Qd T s).2).i).pos) mem1 mem0
  have hres3 := qh (Option.some.inj hres.out)
  have hout := qh (hA9.lout mem0)
  clear hA8 hA9 hA7
  go_wp21
  exact bodyPost_ret (v := .slice (some ⟨W8.heap.size, 0, none⟩) 2 2) (by simp [results, Tryz.results196, go_sem]) rfl (hres3.out ▸ hout.out)
theorem Qpt (pb tb c : Nat) (T : List Tok) (fo : MRd) (s : St) (w : World) (o : List Syn × St) (h : PR pb tb c T s w) (hlv : Lv s) (hfor : RdM pb tb c T 47 #[.pointer (some ⟨pb, 0, none⟩)] fo)
  (hres : Q06 T fo [104, 101, 97, 114, 100] s = some o) : Calls Tryz.prog 196 #[.pointer (some ⟨pb, 0, none⟩), .string ⟨List.toArray ([104, 101, 97, 114, 100])⟩] w (LOut pb tb c T w o.1 o.2) := by
 have hA := AtR.begin h
 unfold Q06 at hres
 rw [if_pos (by decide)] at hres
 replace hres := qh hres
 replace hfor := qh hfor
 clear h
 go_enter Tryz.func196, Tryz.ntmps196
 go_wp2_with fail
 refine hA.cNumber ?_
 clear hA
 intro g1 m1 cp1 W hA
 go_upto_region 6 with (fail)
 replace hA := hA.alloc [.int .i64 9, .string ⟨List.toArray ([])⟩, .int .i64 (mVal (tk T s.i).text), .int .i64 (tk T s.i).pos, .slice g1 m1 cp1] 24
 generalize W.heap.size = P at hA ⊢
 generalize World.alloc W _ = W at hA ⊢
 go_wp2_with fail
 refine hA.cNeed [44] ?_
 clear hA
 intro W hA
 go_upto_region 7 with (fail)
 have hA7 := hA.drew
 clear hA
 obtain ⟨⟨⟨l0, l1, l2, l3, l4⟩, hfl⟩, ll, -⟩ := hA7.c5
 go_region_with (refine hA7.cNumber ?_; intro g2 m2 cp2 W8 hA8; obtain ⟨⟨⟨l0, l1, l2, l3, l4⟩, hfl⟩, ll, -⟩ := hA8.c5)
 all_goals
  have hA9 := hA8.slice2 (k := 9) (tx := []) (n := (mVal (tk T s.i).text)) (a := (tk T s.i).pos) (k' := 9) (tx' := []) (n' := (mVal (tk T (Q7 T [44] (Qd T s).2).i).text)) (a' := (tk T (Q7 T [44] (Qd T s).2).i).pos) mem1 mem0
  have hres3 := qh (Option.some.inj hres.out)
  have hout := qh (hA9.lout mem0)
  clear hA8 hA9 hA7
  go_wp21
  exact bodyPost_ret (v := .slice (some ⟨W8.heap.size, 0, none⟩) 2 2) (by simp [results, Tryz.results196, go_sem]) rfl (hres3.out ▸ hout.out)
theorem Qrh (pb tb c : Nat) (T : List Tok) (fo : MRd) (s : St) (w : World) (o : List Syn × St) (h : PR pb tb c T s w) (hlv : Lv s) (hfor : RdM pb tb c T 47 #[.pointer (some ⟨pb, 0, none⟩)] fo)
  (hres : Q06 T fo [100, 101, 99, 105, 100, 101, 100] s = some o) : Calls Tryz.prog 196 #[.pointer (some ⟨pb, 0, none⟩), .string ⟨List.toArray ([100, 101, 99, 105, 100, 101, 100])⟩] w (LOut pb tb c T w o.1 o.2) := by
 have hA := AtR.begin h
 unfold Q06 at hres
 rw [if_pos (by decide)] at hres
 replace hres := qh hres
 replace hfor := qh hfor
 clear h
 go_enter Tryz.func196, Tryz.ntmps196
 go_wp2_with fail
 refine hA.cNumber ?_
 clear hA
 intro g1 m1 cp1 W hA
 go_upto_region 6 with (fail)
 replace hA := hA.alloc [.int .i64 9, .string ⟨List.toArray ([])⟩, .int .i64 (mVal (tk T s.i).text), .int .i64 (tk T s.i).pos, .slice g1 m1 cp1] 24
 generalize W.heap.size = P at hA ⊢
 generalize World.alloc W _ = W at hA ⊢
 go_wp2_with fail
 refine hA.cNeed [44] ?_
 clear hA
 intro W hA
 go_upto_region 7 with (fail)
 have hA7 := hA.drew
 clear hA
 obtain ⟨⟨⟨l0, l1, l2, l3, l4⟩, hfl⟩, ll, -⟩ := hA7.c5
 go_region_with (refine hA7.cNumber ?_; intro g2 m2 cp2 W8 hA8; obtain ⟨⟨⟨l0, l1, l2, l3, l4⟩, hfl⟩, ll, -⟩ := hA8.c5)
 all_goals
  have hA9 := hA8.slice2 (k := 9) (tx := []) (n := (mVal (tk T s.i).text)) (a := (tk T s.i).pos) (k' := 9) (tx' := []) (n' := (mVal (tk T (Q7 T [44] (Qd T s).2).i).text)) (a' := (tk T (Q7 T [44] (Qd T s).2).i).pos) mem1 mem0
  have hres3 := qh (Option.some.inj hres.out)
  have hout := qh (hA9.lout mem0)
  clear hA8 hA9 hA7
  go_wp21
  exact bodyPost_ret (v := .slice (some ⟨W8.heap.size, 0, none⟩) 2 2) (by simp [results, Tryz.results196, go_sem]) rfl (hres3.out ▸ hout.out)
theorem Qp9 (pb tb c : Nat) (T : List Tok) (fo : MRd) (s : St) (w : World) (o : List Syn × St) (h : PR pb tb c T s w) (hlv : Lv s) (hfor : RdM pb tb c T 47 #[.pointer (some ⟨pb, 0, none⟩)] fo)
  (hres : Q06 T fo [103, 105, 118, 101, 110] s = some o) : Calls Tryz.prog 196 #[.pointer (some ⟨pb, 0, none⟩), .string ⟨List.toArray ([103, 105, 118, 101, 110])⟩] w (LOut pb tb c T w o.1 o.2) := by
 have hA := AtR.begin h
 unfold Q06 at hres
 rw [if_neg (by decide), if_pos (by decide)] at hres
 replace hres := qh hres
 replace hfor := qh hfor
 clear h
 go_enter Tryz.func196, Tryz.ntmps196
 go_wp2_with fail
 refine hA.cNumber ?_
 clear hA
 intro g1 m1 cp1 W hA
 have hres3 := qh (Option.some.inj hres.out)
 replace hA := hA.slice1 (k := 9) (tx := []) (n := (mVal (tk T s.i).text)) (a := (tk T s.i).pos) mem0
 have hout := qh (hA.lout mem0)
 clear hA
 go_wp21
 exact bodyPost_ret (v := .slice (some ⟨W.heap.size, 0, none⟩) 1 1) (by simp [results, Tryz.results196, go_sem]) rfl (hres3.out ▸ hout.out)
theorem Qnv (pb tb c : Nat) (T : List Tok) (fo : MRd) (s : St) (w : World) (o : List Syn × St) (h : PR pb tb c T s w) (hlv : Lv s) (hfor : RdM pb tb c T 47 #[.pointer (some ⟨pb, 0, none⟩)] fo)
  (hres : Q06 T fo [102, 97, 117, 108, 116, 121] s = some o) : Calls Tryz.prog 196 #[.pointer (some ⟨pb, 0, none⟩), .string ⟨List.toArray ([102, 97, 117, 108, 116, 121])⟩] w (LOut pb tb c T w o.1 o.2) := by
 have hA := AtR.begin h
 unfold Q06 at hres
 rw [if_neg (by decide), if_pos (by decide)] at hres
 replace hres := qh hres
 replace hfor := qh hfor
 clear h
 go_enter Tryz.func196, Tryz.ntmps196
 go_wp2_with fail
 refine hA.cNumber ?_
 clear hA
 intro g1 m1 cp1 W hA
 have hres3 := qh (Option.some.inj hres.out)
 replace hA := hA.slice1 (k := 9) (tx := []) (n := (mVal (tk T s.i).text)) (a := (tk T s.i).pos) mem0
 have hout := qh (hA.lout mem0)
 clear hA
 go_wp21
 exact bodyPost_ret (v := .slice (some ⟨W.heap.size, 0, none⟩) 1 1) (by simp [results, Tryz.results196, go_sem]) rfl (hres3.out ▸ hout.out)
theorem Ql0 (pb tb c : Nat) (T : List Tok) (fo : MRd) (s : St) (w : World) (o : List Syn × St) (h : PR pb tb c T s w) (hlv : Lv s) (hfor : RdM pb tb c T 47 #[.pointer (some ⟨pb, 0, none⟩)] fo)
  (hres : Q06 T fo [97, 116] s = some o) : Calls Tryz.prog 196 #[.pointer (some ⟨pb, 0, none⟩), .string ⟨List.toArray ([97, 116])⟩] w (LOut pb tb c T w o.1 o.2) := by
 have hA := AtR.begin h
 unfold Q06 at hres
 rw [if_neg (by decide), if_pos (by decide)] at hres
 replace hres := qh hres
 replace hfor := qh hfor
 clear h
 go_enter Tryz.func196, Tryz.ntmps196
 go_wp2_with fail
 refine hA.cNumber ?_
 clear hA
 intro g1 m1 cp1 W hA
 have hres3 := qh (Option.some.inj hres.out)
 replace hA := hA.slice1 (k := 9) (tx := []) (n := (mVal (tk T s.i).text)) (a := (tk T s.i).pos) mem0
 have hout := qh (hA.lout mem0)
 clear hA
 go_wp21
 exact bodyPost_ret (v := .slice (some ⟨W.heap.size, 0, none⟩) 1 1) (by simp [results, Tryz.results196, go_sem]) rfl (hres3.out ▸ hout.out)
theorem Qnu (pb tb c : Nat) (T : List Tok) (fo : MRd) (s : St) (w : World) (o : List Syn × St) (h : PR pb tb c T s w) (hlv : Lv s) (hfor : RdM pb tb c T 47 #[.pointer (some ⟨pb, 0, none⟩)] fo)
  (hres : Q06 T fo [75] s = some o) : Calls Tryz.prog 196 #[.pointer (some ⟨pb, 0, none⟩), .string ⟨List.toArray ([75])⟩] w (LOut pb tb c T w o.1 o.2) := by
 have hA := AtR.begin h
 unfold Q06 at hres
 rw [if_neg (by decide), if_neg (by decide), if_pos (by decide)] at hres
 replace hres := qh hres
 replace hfor := qh hfor
 clear h
 go_enter Tryz.func196, Tryz.ntmps196
 go_wp2_with fail
 refine hA.cNumber ?_
 clear hA
 intro g1 m1 cp1 W hA
 go_upto_region 14 with (fail)
 replace hA := hA.alloc [.int .i64 9, .string ⟨List.toArray ([])⟩, .int .i64 (mVal (tk T s.i).text), .int .i64 (tk T s.i).pos, .slice g1 m1 cp1] 24
 generalize W.heap.size = P at hA ⊢
 generalize World.alloc W _ = W at hA ⊢
 go_wp2_with fail
 refine hA.cNeed [44] ?_
 clear hA
 intro W hA
 go_upto_region 15 with (fail)
 have hA7 := hA.drew
 clear hA
 obtain ⟨⟨⟨l0, l1, l2, l3, l4⟩, hfl⟩, ll, -⟩ := hA7.c5
 go_region_with (refine hA7.cRd (hlv.number.need) hres.out hfor.out ?_; intro k8 tx8 n8 a8 kids8 s8 g8 m8 cp8 W8 hres8 hlv8 hLv8 hA8; obtain ⟨⟨⟨l0, l1, l2, l3, l4⟩, hfl⟩, ll, -⟩ := hA8.c5)
 all_goals
  have hA9 := hA8.slice2 (k := 9) (tx := []) (n := (mVal (tk T s.i).text)) (a := (tk T s.i).pos) (k' := k8) (tx' := tx8) (n' := n8) (a' := a8) mem1 mem0
  have hres3 := qh (Option.some.inj hres8)
  have hout := qh (hA9.lout mem0)
  clear hA8 hA9 hA7
  go_wp21
  exact bodyPost_ret (v := .slice (some ⟨W8.heap.size, 0, none⟩) 2 2) (by simp [results, Tryz.results196, go_sem]) rfl (hres3.out ▸ hout.out)
theorem Qs7 (pb tb c : Nat) (T : List Tok) (fo : MRd) (s : St) (w : World) (o : List Syn × St) (h : PR pb tb c T s w) (hlv : Lv s) (hfor : RdM pb tb c T 47 #[.pointer (some ⟨pb, 0, none⟩)] fo)
  (hres : Q06 T fo [69] s = some o) : Calls Tryz.prog 196 #[.pointer (some ⟨pb, 0, none⟩), .string ⟨List.toArray ([69])⟩] w (LOut pb tb c T w o.1 o.2) := by
 have hA := AtR.begin h
 unfold Q06 at hres
 rw [if_neg (by decide), if_neg (by decide), if_neg (by decide), if_pos (by decide)] at hres
 replace hres := qh hres
 replace hfor := qh hfor
 clear h
 go_enter Tryz.func196, Tryz.ntmps196
 go_wp2_with fail
 refine hA.cRd1 hlv hres.out Q8z (fun o ho => Qbq pb tb c T s _ o hA.ps ho) ?_
 clear hA
 intro kd1 tx1 n1 a1 kids1 s1 g1 m1 cp1 W hres1 hlv1 hLv1 hA
 replace hres1 := qh hres1
 go_upto_region 20 with (fail)
 replace hA := hA.alloc [.int .i64 kd1, .string ⟨List.toArray (tx1)⟩, .int .i64 n1, .int .i64 a1, .slice g1 m1 cp1] 24
 generalize W.heap.size = P at hA ⊢
 generalize World.alloc W _ = W at hA ⊢
 go_wp2_with fail
 refine hA.cNeed [44] ?_
 clear hA
 intro W hA
 go_upto_region 21 with (fail)
 have hA7 := hA.drew
 clear hA
 obtain ⟨⟨⟨l0, l1, l2, l3, l4⟩, hfl⟩, ll, -⟩ := hA7.c5
 go_region_with (refine hA7.cRd hLv1.need hres1.out hfor.out ?_; intro k8 tx8 n8 a8 kids8 s8 g8 m8 cp8 W8 hres8 hlv8 hLv8 hA8; obtain ⟨⟨⟨l0, l1, l2, l3, l4⟩, hfl⟩, ll, -⟩ := hA8.c5)
 all_goals
  have hA9 := hA8.slice2 (k := kd1) (tx := tx1) (n := n1) (a := a1) (k' := k8) (tx' := tx8) (n' := n8) (a' := a8) mem1 mem0
  have hres3 := qh (Option.some.inj hres8)
  have hout := qh (hA9.lout mem0)
  clear hA8 hA9 hA7
  go_wp21
  exact bodyPost_ret (v := .slice (some ⟨W8.heap.size, 0, none⟩) 2 2) (by simp [results, Tryz.results196, go_sem]) rfl (hres3.out ▸ hout.out)
theorem Qnp (pb tb c : Nat) (T : List Tok) (fo : MRd) (s : St) (w : World) (o : List Syn × St) (h : PR pb tb c T s w) (hlv : Lv s) (hfor : RdM pb tb c T 47 #[.pointer (some ⟨pb, 0, none⟩)] fo)
  (hres : Q06 T fo [68] s = some o) : Calls Tryz.prog 196 #[.pointer (some ⟨pb, 0, none⟩), .string ⟨List.toArray ([68])⟩] w (LOut pb tb c T w o.1 o.2) := by
 have hA := AtR.begin h
 unfold Q06 at hres
 rw [if_neg (by decide), if_neg (by decide), if_neg (by decide), if_pos (by decide)] at hres
 replace hres := qh hres
 replace hfor := qh hfor
 clear h
 go_enter Tryz.func196, Tryz.ntmps196
 go_wp2_with fail
 refine hA.cRd1 hlv hres.out Q8z (fun o ho => Qbq pb tb c T s _ o hA.ps ho) ?_
 clear hA
 intro kd1 tx1 n1 a1 kids1 s1 g1 m1 cp1 W hres1 hlv1 hLv1 hA
 replace hres1 := qh hres1
 go_upto_region 20 with (fail)
 replace hA := hA.alloc [.int .i64 kd1, .string ⟨List.toArray (tx1)⟩, .int .i64 n1, .int .i64 a1, .slice g1 m1 cp1] 24
 generalize W.heap.size = P at hA ⊢
 generalize World.alloc W _ = W at hA ⊢
 go_wp2_with fail
 refine hA.cNeed [44] ?_
 clear hA
 intro W hA
 go_upto_region 21 with (fail)
 have hA7 := hA.drew
 clear hA
 obtain ⟨⟨⟨l0, l1, l2, l3, l4⟩, hfl⟩, ll, -⟩ := hA7.c5
 go_region_with (refine hA7.cRd hLv1.need hres1.out hfor.out ?_; intro k8 tx8 n8 a8 kids8 s8 g8 m8 cp8 W8 hres8 hlv8 hLv8 hA8; obtain ⟨⟨⟨l0, l1, l2, l3, l4⟩, hfl⟩, ll, -⟩ := hA8.c5)
 all_goals
  have hA9 := hA8.slice2 (k := kd1) (tx := tx1) (n := n1) (a := a1) (k' := k8) (tx' := tx8) (n' := n8) (a' := a8) mem1 mem0
  have hres3 := qh (Option.some.inj hres8)
  have hout := qh (hA9.lout mem0)
  clear hA8 hA9 hA7
  go_wp21
  exact bodyPost_ret (v := .slice (some ⟨W8.heap.size, 0, none⟩) 2 2) (by simp [results, Tryz.results196, go_sem]) rfl (hres3.out ▸ hout.out)
theorem Qr2 (pb tb c : Nat) (T : List Tok) (fo : MRd) (s : St) (w : World) (o : List Syn × St) (h : PR pb tb c T s w) (hlv : Lv s) (hfor : RdM pb tb c T 47 #[.pointer (some ⟨pb, 0, none⟩)] fo)
  (hres : Q06 T fo [67] s = some o) : Calls Tryz.prog 196 #[.pointer (some ⟨pb, 0, none⟩), .string ⟨List.toArray ([67])⟩] w (LOut pb tb c T w o.1 o.2) := by
 have hA := AtR.begin h
 unfold Q06 at hres
 rw [if_neg (by decide), if_neg (by decide), if_neg (by decide), if_pos (by decide)] at hres
 replace hres := qh hres
 replace hfor := qh hfor
 clear h
 go_enter Tryz.func196, Tryz.ntmps196
 go_wp2_with fail
 refine hA.cRd1 hlv hres.out Q8z (fun o ho => Qbq pb tb c T s _ o hA.ps ho) ?_
 clear hA
 intro kd1 tx1 n1 a1 kids1 s1 g1 m1 cp1 W hres1 hlv1 hLv1 hA
 replace hres1 := qh hres1
 go_upto_region 20 with (fail)
 replace hA := hA.alloc [.int .i64 kd1, .string ⟨List.toArray (tx1)⟩, .int .i64 n1, .int .i64 a1, .slice g1 m1 cp1] 24
 generalize W.heap.size = P at hA ⊢
 generalize World.alloc W _ = W at hA ⊢
 go_wp2_with fail
 refine hA.cNeed [44] ?_
 clear hA
 intro W hA
 go_upto_region 21 with (fail)
 have hA7 := hA.drew
 clear hA
 obtain ⟨⟨⟨l0, l1, l2, l3, l4⟩, hfl⟩, ll, -⟩ := hA7.c5
 go_region_with (refine hA7.cRd hLv1.need hres1.out hfor.out ?_; intro k8 tx8 n8 a8 kids8 s8 g8 m8 cp8 W8 hres8 hlv8 hLv8 hA8; obtain ⟨⟨⟨l0, l1, l2, l3, l4⟩, hfl⟩, ll, -⟩ := hA8.c5)
 all_goals
  have hA9 := hA8.slice2 (k := kd1) (tx := tx1) (n := n1) (a := a1) (k' := k8) (tx' := tx8) (n' := n8) (a' := a8) mem1 mem0
  have hres3 := qh (Option.some.inj hres8)
  have hout := qh (hA9.lout mem0)
  clear hA8 hA9 hA7
  go_wp21
  exact bodyPost_ret (v := .slice (some ⟨W8.heap.size, 0, none⟩) 2 2) (by simp [results, Tryz.results196, go_sem]) rfl (hres3.out ▸ hout.out)
theorem Qj6 (w0 : List UInt8) (pb tb c : Nat) (T : List Tok) (fo : MRd) (s : St) (w : World) (o : List Syn × St) (h : PR pb tb c T s w) (hlv : Lv s) (hfor : RdM pb tb c T 47 #[.pointer (some ⟨pb, 0, none⟩)] fo)
  (h0 : w0 ≠ [105, 110, 112, 117, 116]) (h1 : w0 ≠ [104, 101, 97, 114, 100]) (h2 : w0 ≠ [100, 101, 99, 105, 100, 101, 100]) (h3 : w0 ≠ [103, 105, 118, 101, 110]) (h4 : w0 ≠ [102, 97, 117, 108, 116, 121]) (h5 : w0 ≠ [97, 116]) (h6 : w0 ≠ [75]) (h7 : w0 ≠ [69]) (h8 : w0 ≠ [68]) (h9 : w0 ≠ [67])
  (hres : Q06 T fo w0 s = some o) : Calls Tryz.prog 196 #[.pointer (some ⟨pb, 0, none⟩), .string ⟨List.toArray (w0)⟩] w (LOut pb tb c T w o.1 o.2) := by
 have hA := AtR.begin h
 unfold Q06 at hres
 rw [if_neg (by simp [h0, h1, h2]), if_neg (by simp [h3, h4, h5]), if_neg (by simp [h6]), if_neg (by simp [h7, h8, h9])] at hres
 have b0 : (w0 == [105, 110, 112, 117, 116]) = false := by rw [beq_eq_false_iff_ne]; exact h0
 have b1 : (w0 == [104, 101, 97, 114, 100]) = false := by rw [beq_eq_false_iff_ne]; exact h1
 have b2 : (w0 == [100, 101, 99, 105, 100, 101, 100]) = false := by rw [beq_eq_false_iff_ne]; exact h2
 have b3 : (w0 == [103, 105, 118, 101, 110]) = false := by rw [beq_eq_false_iff_ne]; exact h3
 have b4 : (w0 == [102, 97, 117, 108, 116, 121]) = false := by rw [beq_eq_false_iff_ne]; exact h4
 have b5 : (w0 == [97, 116]) = false := by rw [beq_eq_false_iff_ne]; exact h5
 have b6 : (w0 == [75]) = false := by rw [beq_eq_false_iff_ne]; exact h6
 have b7 : (w0 == [69]) = false := by rw [beq_eq_false_iff_ne]; exact h7
 have b8 : (w0 == [68]) = false := by rw [beq_eq_false_iff_ne]; exact h8
 have b9 : (w0 == [67]) = false := by rw [beq_eq_false_iff_ne]; exact h9
 replace hres := qh hres
 replace hfor := qh hfor
 clear h
 go_enter Tryz.func196, Tryz.ntmps196
 go_wp2_with fail
 refine hA.cRd (hlv) hres.out hfor.out ?_
 clear hA
 intro kd1 tx1 n1 a1 kids1 s1 g1 m1 cp1 W hres1 hlv1 hLv1 hA
 replace hres1 := qh hres1
 have hres3 := qh (Option.some.inj hres1.out)
 replace hA := hA.slice1 (k := kd1) (tx := tx1) (n := n1) (a := a1) mem0
 have hout := qh (hA.lout mem0)
 clear hA
 go_wp21
 exact bodyPost_ret (v := .slice (some ⟨W.heap.size, 0, none⟩) 1 1) (by simp [results, Tryz.results196, go_sem]) rfl (hres3.out ▸ hout.out)
theorem Qq2 (pb tb c : Nat) (T : List Tok) (fo : MRd) (hfor : RdM pb tb c T 47 #[.pointer (some ⟨pb, 0, none⟩)] fo) (w : List UInt8) : Qgq pb tb c T w fo := fun W s l s' h hlv hm => by
 by_cases h0 : w = [105, 110, 112, 117, 116]
 ·subst h0; exact Qk5 pb tb c T fo s W (l, s') h hlv hfor hm
 by_cases h1 : w = [104, 101, 97, 114, 100]
 ·subst h1; exact Qpt pb tb c T fo s W (l, s') h hlv hfor hm
 by_cases h2 : w = [100, 101, 99, 105, 100, 101, 100]
 ·subst h2; exact Qrh pb tb c T fo s W (l, s') h hlv hfor hm
 by_cases h3 : w = [103, 105, 118, 101, 110]
 ·subst h3; exact Qp9 pb tb c T fo s W (l, s') h hlv hfor hm
 by_cases h4 : w = [102, 97, 117, 108, 116, 121]
 ·subst h4; exact Qnv pb tb c T fo s W (l, s') h hlv hfor hm
 by_cases h5 : w = [97, 116]
 ·subst h5; exact Ql0 pb tb c T fo s W (l, s') h hlv hfor hm
 by_cases h6 : w = [75]
 ·subst h6; exact Qnu pb tb c T fo s W (l, s') h hlv hfor hm
 by_cases h7 : w = [69]
 ·subst h7; exact Qs7 pb tb c T fo s W (l, s') h hlv hfor hm
 by_cases h8 : w = [68]
 ·subst h8; exact Qnp pb tb c T fo s W (l, s') h hlv hfor hm
 by_cases h9 : w = [67]
 ·subst h9; exact Qr2 pb tb c T fo s W (l, s') h hlv hfor hm
 exact Qj6 w pb tb c T fo s W (l, s') h hlv hfor h0 h1 h2 h3 h4 h5 h6 h7 h8 h9 hm
end
end Go.Proofs.YtplbfmcgddnkeaaGreatDoor
