/- Joined: RpM, RpL. -/
import Derived.Test.YtplbfmcgddnkeaaGreatDoorS36
set_option linter.unusedVariables false
set_option linter.unusedSimpArgs false
section
set_option maxHeartbeats 1000000
set_option maxRecDepth 100000
namespace Go.Proofs.YtplbfmcgddnkeaaGreatDoor
open Go.RowKit
attribute [local go_sem ↓] Go.wp_at_zero Go.wp_at_succ
attribute [local go_sem ↓] app_open
def RSetInv (pb tb c B M N : Nat) (T : List Tok) (tc : List Value) (p : Int) (w : World) (o : Syn × St) (g : Nat) (wr : World) : Prop :=
  ∃ ks ga kc s, ks.length + g ≤ T.length + 4 ∧ AtR pb tb c T w [(N, [.int .i64 14, .string ⟨#[]⟩, .int .i64 0, .int .i64 p, .slice ga ks.length kc], 24), (M, tc, 45), (B, z5, 24)] [] (ks, .slice ga ks.length kc) s wr ∧
    ((mSetLoop T g ks s).bind fun q => some (Syn.mk 14 [] 0 p q.1, mNeed T [125] q.2)) = some o
theorem rset_any (pb tb c : Nat) (T : List Tok) (s : St) (w : World) (o : Syn × St) (h : PR pb tb c T s w) (hres : mSet T s = some o) :
    Calls Tryz.prog 210 #[.pointer (some ⟨pb, 0, none⟩)] w (ROut pb tb c T w o.1 o.2) := by
  have hA := (AtR.begin h).alloc z5 24
  have hsz := h.size
  unfold mSet at hres
  replace hres := Lib.hid hres
  clear h
  go_enter Tryz.func210, Tryz.ntmps210
  go_wp2_with fail
  generalize w.heap.size = B at hA ⊢
  refine hA.cTok ?_
  clear hA
  try clear d0 d1 d2 d3 d4 f0
  intro W hA
  go_upto_region 2 with (fail)
  replace hA := hA.alloc [.int .i64 (tk T s.i).kind, .string ⟨(tk T s.i).text.toArray⟩, .int .i64 (tk T s.i).pos] 45
  generalize W.heap.size = M at hA ⊢
  generalize World.alloc W _ = W at hA ⊢
  obtain ⟨⟨y0, y1, y2⟩, _⟩ := own3 (hA.loc _ mem0)
  go_upto_region 3 with (fail)
  replace hA := hA.alloc [.int .i64 14, .string ⟨#[]⟩, .int .i64 0, .int .i64 (tk T s.i).pos, .slice none 0 0] 24
  generalize W.heap.size = N at hA ⊢
  generalize World.alloc W _ = W at hA ⊢
  clear y0 y1 y2
  generalize hpp : (tk T s.i).pos = p at hres hA ⊢
  clear hpp
  go_wp2_with fail
  refine hA.cIs [101, 118, 101, 114, 121, 111, 110, 101] ?_ ?_
  rotate_left
  · clear hA
    intro hi W hA
    have hres3 := Lib.hid (Option.some.inj ((if_pos hi).symm.trans hres.out))
    go_wp2_with fail
    refine hA.cTake ?_
    clear hA
    intro W hA
    obtain ⟨⟨x0, x1, x2, x3, x4⟩, x5⟩ := own5 (hA.loc _ mem0)
    have x6 := hA.lt mem0
    go_upto_region 6 with (fail)
    replace hA := (hA.set1 (.string ⟨List.toArray [101, 118, 101, 114, 121, 111, 110, 101]⟩)).leaf
    generalize World.setCell W _ _ = W at hA ⊢
    clear x0 x1 x2 x3 x4 x5 x6
    obtain ⟨⟨z0, z1, z2, z3, z4⟩, _⟩ := own5 (hA.loc _ mem0)
    have hR := hA.one (x := (B, z5, 24)) mem2
    have hsb := hR.blk
    have hZ := hR.setSyn (.int .i64 14) (.string ⟨List.toArray ([101, 118, 101, 114, 121, 111, 110, 101])⟩) (.int .i64 0) (.int .i64 p) (.slice none 0 0)
    obtain ⟨⟨⟨q0, q1, q2, q3, q4⟩, _⟩, _, _⟩ := hZ.c5
    have hout := Lib.hid (hZ.out (k := 14) (tx := [101, 118, 101, 114, 121, 111, 110, 101]) (n := 0) (a := p) mem0)
    clear hR hZ hA
    go_wp21
    exact bodyPost_ret (v := .agg #[.int .i64 14, .string ⟨List.toArray ([101, 118, 101, 114, 121, 111, 110, 101])⟩, .int .i64 0, .int .i64 p, .slice none 0 0]) (by simp [results, Tryz.results210, go_sem, q0, q1, q2, q3, q4]) rfl (hres3.out ▸ hout.out)
  clear hA
  intro hi W hA
  replace hres := Lib.hid ((if_neg (by rw [hi]; decide)).symm.trans hres.out)
  go_wp2_with fail
  refine hA.cNeed [123] ?_
  clear hA
  intro W hA
  generalize hs1 : mNeed T [123] s = s1 at hres hA ⊢
  obtain ⟨d0, d1, d2, d3, d4⟩ := hA.ps.cells
  by_cases h1 : s1.er = 0
  · have hb1 : (s1.er == 0) = true := by rw [beq_iff_eq]; exact h1
    replace h1 := Lib.hid h1
    go_wp2_with fail
    refine hA.cIs [125] ?_ ?_
    rotate_left
    · clear hA d0 d1 d2 d3 d4
      intro hi W hA
      have hres3 := Lib.hid (Option.some.inj ((if_neg (fun k => by rw [hi] at k; cases k.2)).symm.trans hres.out))
      go_wp2_with fail
      refine hA.cNeed [125] ?_
      clear hA
      intro W hA
      go_upto_region 14 with (fail)
      replace hA := hA.close
      obtain ⟨⟨z0, z1, z2, z3, z4⟩, _⟩ := own5 (hA.loc _ mem0)
      have hR := hA.one (x := (B, z5, 24)) mem2
      have hsb := hR.blk
      have hZ := hR.setSyn (.int .i64 14) (.string ⟨List.toArray ([])⟩) (.int .i64 0) (.int .i64 p) (.slice none 0 0)
      obtain ⟨⟨⟨q0, q1, q2, q3, q4⟩, _⟩, _, _⟩ := hZ.c5
      have hout := Lib.hid (hZ.out (k := 14) (tx := []) (n := 0) (a := p) mem0)
      clear hR hZ hA
      go_wp21
      exact bodyPost_ret (v := .agg #[.int .i64 14, .string ⟨List.toArray ([])⟩, .int .i64 0, .int .i64 p, .slice none 0 0]) (by simp [results, Tryz.results210, go_sem, q0, q1, q2, q3, q4]) rfl (hres3.out ▸ hout.out)
    clear hA d0 d1 d2 d3 d4
    intro hi W hA
    replace hres := Lib.hid ((if_pos ⟨h1.out, hi⟩).symm.trans hres.out)
    go_upto_region 9 with (fail)
    have hA10 := hA.drew
    have hc10 := hA10.c5
    refine' cut_in ?kka ?ffa
    case ffa =>
      intro key
      go_region_with (first
        | (go_at_call 86; refine hA10.cNumber ?_; intro g2 m2 cp2 w11 hA11; have hc11 := hA11.c5)
        | (refine AtR.stepApp' (hA11.junk _) (by simp) (List.mem_cons_self ..) (heap_alloc_new _ _) (by rfl) (by rfl) (by rfl) (by rfl) ?_; intro g12 cap12 w12 hA12; have hc12 := hA12.c5))
      all_goals
        have hA13 := hA12.set4 (.slice (some ⟨g12, 0, none⟩) (1) cap12)
        generalize World.setCell w12 _ _ = w13 at hA13 ⊢
        clear hA11 hA12 hc12 hc11
        generalize Value.slice (some { block := w11.heap.size, off := 0 }) 1 1 = s22 at ⊢
        clear w11 w12
        revert hA13
        revert w13
        revert s22
        revert g12
        revert cap12
        revert cp2 m2 g2
        exact key.out
    intro g2 m2 cp2 cap12 g12 s22 W hA
    clear hA10 hc10
    have hinv := Lib.hid (show RSetInv pb tb c B M N T _ p w o (T.length + 2) W from ⟨[.mk 9 [] (mVal (tk T s1.i).text) (tk T s1.i).pos []], some ⟨g12, 0, none⟩, cap12, _, by simp; omega, hA.weak (fun _ h => (List.not_mem_nil h).elim), hres.out⟩)
    clear hA hres
    go_wp2_with fail
    go_loopg [35] (T.length + 2) (fun g _ wr => RSetInv pb tb c B M N T _ p w o g wr)
    case atStart => exact hinv.out
    case round =>
      obtain ⟨ks, ga, kc, s2, hlen, hA, hres⟩ := hrel
      obtain ⟨g', rfl⟩ : ∃ g', gk = g' + 1 := by
        cases gk with
        | zero => cases hres
        | succ g' => exact ⟨g', rfl⟩
      rw [mSetLoop] at hres
      replace hres := Lib.hid hres
      clear hinv
      have hle : ks.length ≤ 1000000 := by omega
      obtain ⟨d0, d1, d2, d3, d4⟩ := hA.ps.cells
      by_cases h2 : s2.er = 0
      · have hb2 : (s2.er == 0) = true := by rw [beq_iff_eq]; exact h2
        replace h2 := Lib.hid h2
        go_wp2_with fail
        refine hA.cIs [44] ?_ ?_
        · clear hA d0 d1 d2 d3 d4
          intro hi W hA
          have hres3 := hres.out
          rw [if_neg (fun k => by rw [hi] at k; cases k.2)] at hres3
          replace hres3 := Lib.hid (Option.some.inj hres3)
          go_wp2_with fail
          refine hA.cNeed [125] ?_
          clear hA
          intro W hA
          go_upto_region 14 with (fail)
          replace hA := hA.close
          obtain ⟨⟨z0, z1, z2, z3, z4⟩, _⟩ := own5 (hA.loc _ mem0)
          have hR := hA.one (x := (B, z5, 24)) mem2
          have hsb := hR.blk
          have hZ := hR.setSyn (.int .i64 14) (.string ⟨List.toArray ([])⟩) (.int .i64 0) (.int .i64 p) (.slice ga ks.length kc)
          obtain ⟨⟨⟨q0, q1, q2, q3, q4⟩, _⟩, _, _⟩ := hZ.c5
          have hout := Lib.hid (hZ.out (k := 14) (tx := []) (n := 0) (a := p) mem0)
          clear hR hZ hA
          go_wp21
          exact bodyPost_ret (v := .agg #[.int .i64 14, .string ⟨List.toArray ([])⟩, .int .i64 0, .int .i64 p, .slice ga ks.length kc]) (by simp [results, Tryz.results210, go_sem, q0, q1, q2, q3, q4]) rfl (hres3.out ▸ hout.out)
        · clear hA d0 d1 d2 d3 d4
          intro hi W hA
          have hres2 := hres.out
          rw [if_pos ⟨h2.out, hi⟩] at hres2
          replace hres2 := Lib.hid hres2
          clear hres
          go_wp2_with fail
          refine hA.cTake ?_
          clear hA
          intro W hA
          go_upto_region 12 with (fail)
          have hA10 := hA.drew
          have hc10 := hA10.c5
          refine' cut_in ?kkb ?ffb
          case ffb =>
            intro key
            go_region_with (first
              | (go_at_call 86; refine hA10.cNumber ?_; intro g2 m2 cp2 w11 hA11; have hc11 := hA11.c5)
              | (refine AtR.stepApp' (hA11.junk _) hle (List.mem_cons_self ..) (heap_alloc_new _ _) (by rfl) (by rfl) (by rfl) (by rfl) ?_; intro g12 cap12 w12 hA12; have hc12 := hA12.c5))
            all_goals
              have hA13 := hA12.set4 (.slice (some ⟨g12, 0, none⟩) (ks.length + 1) cap12)
              generalize World.setCell w12 _ _ = w13 at hA13 ⊢
              clear hA11 hA12 hc12 hc11
              generalize Value.slice (some { block := w11.heap.size, off := 0 }) 1 1 = s22 at ⊢
              clear w11 w12
              revert hA13
              revert w13
              revert s22
              revert g12
              revert cap12
              revert cp2 m2 g2
              exact key.out
          intro g2 m2 cp2 cap12 g12 s22 W hA
          clear hA10 hc10
          have hI := Lib.hid (show RSetInv pb tb c B M N T _ p w o g' W from ⟨ks ++ [.mk 9 [] (mVal (tk T (mTake T s2).i).text) (tk T (mTake T s2).i).pos []], some ⟨g12, 0, none⟩, cap12, _, by simp; omega, by simpa using hA.weak (ts' := []) (fun _ h => (List.not_mem_nil h).elim), hres2.out⟩)
          clear hA hres2
          go_wp2_with fail
          go_roundg g'
          case measure => omega
          case rel => exact hI.out
      · have hb2 : (s2.er == 0) = false := by rw [beq_eq_false_iff_ne]; exact h2
        have hres3 := hres.out
        rw [if_neg (fun k => h2 k.1)] at hres3
        replace hres3 := Lib.hid (Option.some.inj hres3)
        replace h2 := Lib.hid h2
        go_wp2_with fail
        refine hA.cNeed [125] ?_
        clear hA
        intro W hA
        go_upto_region 14 with (fail)
        replace hA := hA.close
        obtain ⟨⟨z0, z1, z2, z3, z4⟩, _⟩ := own5 (hA.loc _ mem0)
        have hR := hA.one (x := (B, z5, 24)) mem2
        have hsb := hR.blk
        have hZ := hR.setSyn (.int .i64 14) (.string ⟨List.toArray ([])⟩) (.int .i64 0) (.int .i64 p) (.slice ga ks.length kc)
        obtain ⟨⟨⟨q0, q1, q2, q3, q4⟩, _⟩, _, _⟩ := hZ.c5
        have hout := Lib.hid (hZ.out (k := 14) (tx := []) (n := 0) (a := p) mem0)
        clear hR hZ hA
        go_wp21
        exact bodyPost_ret (v := .agg #[.int .i64 14, .string ⟨List.toArray ([])⟩, .int .i64 0, .int .i64 p, .slice ga ks.length kc]) (by simp [results, Tryz.results210, go_sem, q0, q1, q2, q3, q4]) rfl (hres3.out ▸ hout.out)
  · have hb1 : (s1.er == 0) = false := by rw [beq_eq_false_iff_ne]; exact h1
    have hres3 := Lib.hid (Option.some.inj ((if_neg (fun k => h1 k.1)).symm.trans hres.out))
    replace h1 := Lib.hid h1
    go_wp2_with fail
    refine hA.cNeed [125] ?_
    clear hA
    intro W hA
    go_upto_region 14 with (fail)
    replace hA := hA.close
    obtain ⟨⟨z0, z1, z2, z3, z4⟩, _⟩ := own5 (hA.loc _ mem0)
    have hR := hA.one (x := (B, z5, 24)) mem2
    have hsb := hR.blk
    have hZ := hR.setSyn (.int .i64 14) (.string ⟨List.toArray ([])⟩) (.int .i64 0) (.int .i64 p) (.slice none 0 0)
    obtain ⟨⟨⟨q0, q1, q2, q3, q4⟩, _⟩, _, _⟩ := hZ.c5
    have hout := Lib.hid (hZ.out (k := 14) (tx := []) (n := 0) (a := p) mem0)
    clear hR hZ hA
    go_wp21
    exact bodyPost_ret (v := .agg #[.int .i64 14, .string ⟨List.toArray ([])⟩, .int .i64 0, .int .i64 p, .slice none 0 0]) (by simp [results, Tryz.results210, go_sem, q0, q1, q2, q3, q4]) rfl (hres3.out ▸ hout.out)
end Go.Proofs.YtplbfmcgddnkeaaGreatDoor
end
section
set_option maxHeartbeats 1000000
set_option maxRecDepth 100000
namespace Go.Proofs.YtplbfmcgddnkeaaGreatDoor
open Go.RowKit
attribute [local go_sem ↓] Go.wp_at_zero Go.wp_at_succ
def ArgsM (pb tb c : Nat) (T : List Tok) (w : List UInt8) (fo : MRd) : Prop := ∀ W s l s', PR pb tb c T s W → Lv s → mArgs T fo w s = some (l, s') →
  Calls Tryz.prog 196 #[.pointer (some ⟨pb, 0, none⟩), .string ⟨w.toArray⟩] W fun r w' => Only pb W w' ∧ (∃ v, r = .returned v ∧ KidsAt (Fr W.heap.size) w' l v) ∧ PR pb tb c T s' w'
theorem rliteral_any (pb tb c f : Nat) (T : List Tok) (s : St) (w : World) (o : Syn × St) (h : PR pb tb c T s w) (hlv : Lv s)
    (hlit : RdM pb tb c T 174 #[.pointer (some ⟨pb, 0, none⟩)] (mrd reservedB T f .lit))
    (hfor : RdM pb tb c T 47 #[.pointer (some ⟨pb, 0, none⟩)] (mrd reservedB T f .formula))
    (hargs : ∀ w, ArgsM pb tb c T w (mrd reservedB T f .formula))
    (hres : mrd reservedB T (f + 1) .lit s = some o) : Calls Tryz.prog 174 #[.pointer (some ⟨pb, 0, none⟩)] w (ROut pb tb c T w o.1 o.2) := by
  have hA := (AtR.begin h).alloc z5 24
  obtain ⟨d0, d1, d2, d3, d4⟩ := h.cells
  have hpos := h.pos
  have f0 := h.frozen
  rw [mrd] at hres
  dsimp only at hres
  replace hres := Lib.hid hres
  clear h
  replace hlit := Lib.hid hlit
  replace hfor := Lib.hid hfor
  replace hargs := Lib.hid hargs
  by_cases h0 : s.er = 0
  · skip
    have hb : (s.er != 0) = false := by rw [bne_eq_false_iff_eq]; exact h0
    replace hres := Lib.hid ((if_neg (fun k => k h0)).symm.trans hres.out)
    have hl := hlv h0
    replace h0 := Lib.hid h0
    go_enter Tryz.func174, Tryz.ntmps174
    go_wp2_with fail
    generalize w.heap.size = B at hA ⊢
    refine hA.cTok ?_
    clear hA
    try clear d0 d1 d2 d3 d4 f0
    intro W hA
    go_upto_region 4 with (fail)
    replace hA := hA.alloc [.int .i64 (tk T s.i).kind, .string ⟨(tk T s.i).text.toArray⟩, .int .i64 (tk T s.i).pos] 45
    generalize W.heap.size = M at hA ⊢
    generalize World.alloc W _ = W at hA ⊢
    obtain ⟨⟨y0, y1, y2⟩, _⟩ := own3 (hA.loc _ mem0)
    go_upto_region 6 with (fail)
    replace hA := hA.leaf.alloc [.int .i64 10, .string ⟨(tk T s.i).text.toArray⟩, .int .i64 0, .int .i64 (tk T s.i).pos, .slice none 0 0] 24
    generalize W.heap.size = N at hA ⊢
    generalize World.alloc W _ = W at hA ⊢
    clear y0 y1 y2
    go_wp2_with fail
    refine hA.cIs [110, 111, 116] ?_ ?_
    rotate_left
    · clear hA
      intro hi W hA
      replace hres := Lib.hid ((if_pos hi).symm.trans hres.out)
      go_wp2_with fail
      refine hA.cTake ?_
      clear hA
      intro W hA
      go_wp2_with fail
      refine hA.cPush (by rw [mTake_lv]; exact hl) ?_
      clear hA
      intro W hA
      go_wp2_with fail
      refine hA.cRd (Lv.push _) hres.out hlit.out ?_
      clear hA
      intro kd1 tx1 n1 a1 kids1 s1 g1 m1 cp1 W hres1 hlv1 hLv1 hA
      replace hres1 := Lib.hid hres1
      go_upto_region 10 with (fail)
      replace hA := hA.alloc [.int .i64 kd1, .string ⟨List.toArray (tx1)⟩, .int .i64 n1, .int .i64 a1, .slice g1 m1 cp1] 24
      generalize W.heap.size = P at hA ⊢
      generalize World.alloc W _ = W at hA ⊢
      go_wp2_with fail
      refine hA.cPop (by rw [hlv1, mPush_lv]; omega) ?_
      clear hA
      intro W hA
      go_upto_region 11 with (fail)
      obtain ⟨⟨x0, x1, x2, x3, x4⟩, _⟩ := own5 (hA.loc _ mem0)
      obtain ⟨⟨y0, y1, y2⟩, _⟩ := own3 (hA.loc _ mem2)
      replace hA := hA.slice1 (k := kd1) (tx := tx1) (n := n1) (a := a1) mem0
      have hres3 := Lib.hid (Option.some.inj hres1.out)
      have hsb := (hA.one mem3).blk
      have hR := hA.one (x := (B, z5, 24)) mem3
      have hsb := hR.blk
      have hZ := hR.setSyn (.int .i64 12) (.string ⟨List.toArray ([])⟩) (.int .i64 0) (.int .i64 (tk T s.i).pos) (.slice (some ⟨W.heap.size, 0, none⟩) 1 1)
      obtain ⟨⟨⟨q0, q1, q2, q3, q4⟩, _⟩, _, _⟩ := hZ.c5
      have hout := Lib.hid (hZ.out (k := 12) (tx := []) (n := 0) (a := (tk T s.i).pos) mem0)
      clear hR hZ hA
      go_wp21
      exact bodyPost_ret (v := .agg #[.int .i64 12, .string ⟨List.toArray ([])⟩, .int .i64 0, .int .i64 (tk T s.i).pos, .slice (some ⟨W.heap.size, 0, none⟩) 1 1]) (by simp [results, Tryz.results174, go_sem, q0, q1, q2, q3, q4]) rfl (hres3.out ▸ hout.out)
    clear hA
    intro hi W hA
    replace hres := Lib.hid ((if_neg (by rw [show isW T [kNot] s.i = false from hi]; decide)).symm.trans hres.out)
    go_wp2_with fail
    refine hA.cIs [116, 114, 117, 101] ?_ ?_
    rotate_left
    · clear hA
      intro hi W hA
      have hres3 := Lib.hid (Option.some.inj ((if_pos hi).symm.trans hres.out))
      go_wp2_with fail
      refine hA.cTake ?_
      clear hA
      intro W hA
      go_upto_region 27 with (fail)
      obtain ⟨⟨z0, z1, z2, z3, z4⟩, _⟩ := own5 (hA.loc _ mem0)
      have hR := hA.one (x := (B, z5, 24)) mem2
      have hsb := hR.blk
      have hZ := hR.setSyn (.int .i64 10) (.string ⟨List.toArray ((tk T s.i).text)⟩) (.int .i64 0) (.int .i64 (tk T s.i).pos) (.slice none 0 0)
      obtain ⟨⟨⟨q0, q1, q2, q3, q4⟩, _⟩, _, _⟩ := hZ.c5
      have hout := Lib.hid (hZ.out (k := 10) (tx := (tk T s.i).text) (n := 0) (a := (tk T s.i).pos) mem0)
      clear hR hZ hA
      go_wp21
      exact bodyPost_ret (v := .agg #[.int .i64 10, .string ⟨List.toArray ((tk T s.i).text)⟩, .int .i64 0, .int .i64 (tk T s.i).pos, .slice none 0 0]) (by simp [results, Tryz.results174, go_sem, q0, q1, q2, q3, q4]) rfl (hres3.out ▸ hout.out)
    clear hA
    intro hi W hA
    replace hres := Lib.hid ((if_neg (by rw [hi]; decide)).symm.trans hres.out)
    go_wp2_with fail
    refine hA.cIs [40] ?_ ?_
    rotate_left
    · clear hA
      intro hi W hA
      replace hres := Lib.hid ((if_pos hi).symm.trans hres.out)
      go_wp2_with fail
      refine hA.cTake ?_
      clear hA
      intro W hA
      go_wp2_with fail
      refine hA.cPush (by rw [mTake_lv]; exact hl) ?_
      clear hA
      intro W hA
      go_wp2_with fail
      refine hA.cRd (Lv.push _) hres.out hfor.out ?_
      clear hA
      intro kd1 tx1 n1 a1 kids1 s1 g1 m1 cp1 W hres1 hlv1 hLv1 hA
      replace hres1 := Lib.hid hres1
      have hsb := hA.blk
      go_upto_region 18 with (fail)
      replace hA := hA.setSyn (.int .i64 kd1) (.string ⟨List.toArray (tx1)⟩) (.int .i64 n1) (.int .i64 a1) (.slice g1 m1 cp1)
      generalize setSyn W _ _ _ _ _ _ = W at hA ⊢
      go_wp2_with fail
      refine hA.cPop (by rw [hlv1, mPush_lv]; omega) ?_
      clear hA
      intro W hA
      go_wp2_with fail
      refine hA.cNeed [41] ?_
      clear hA
      intro W hA
      have hres3 := Lib.hid (Option.some.inj hres1.out)
      go_upto_region 27 with (fail)
      obtain ⟨⟨z0, z1, z2, z3, z4⟩, _⟩ := own5 (hA.loc _ mem0)
      have hR := hA.one (x := (B, z5, 24)) mem2
      have hsb := hR.blk
      have hZ := hR.setSyn (.int .i64 kd1) (.string ⟨List.toArray (tx1)⟩) (.int .i64 n1) (.int .i64 a1) (.slice g1 m1 cp1)
      obtain ⟨⟨⟨q0, q1, q2, q3, q4⟩, _⟩, _, _⟩ := hZ.c5
      have hout := Lib.hid (hZ.out (k := kd1) (tx := tx1) (n := n1) (a := a1) mem0)
      clear hR hZ hA
      go_wp21
      exact bodyPost_ret (v := .agg #[.int .i64 kd1, .string ⟨List.toArray (tx1)⟩, .int .i64 n1, .int .i64 a1, .slice g1 m1 cp1]) (by simp [results, Tryz.results174, go_sem, q0, q1, q2, q3, q4]) rfl (hres3.out ▸ hout.out)
    clear hA
    intro hi W hA
    replace hres := Lib.hid ((if_neg (by rw [hi]; decide)).symm.trans hres.out)
    go_wp2_with fail
    refine hA.cAmong [[105, 110, 112, 117, 116], [104, 101, 97, 114, 100], [100, 101, 99, 105, 100, 101, 100], [103, 105, 118, 101, 110], [102, 97, 117, 108, 116, 121], [97, 116], [75], [69], [68], [67], [110, 101, 120, 116], [97, 108, 119, 97, 121, 115], [101, 118, 101, 110, 116, 117, 97, 108, 108, 121]] (by decide) rfl rfl rfl ?_ ?_
    rotate_left
    · clear hA
      intro hi W hA
      replace hres := Lib.hid ((if_pos hi).symm.trans hres.out)
      go_wp2_with fail
      refine hA.cTake ?_
      clear hA
      intro W hA
      go_wp2_with fail
      refine hA.cNeed [40] ?_
      clear hA
      intro W hA
      go_wp2_with fail
      refine hA.cPush (by rw [mNeed_lv, mTake_lv]; exact hl) ?_
      clear hA
      intro W hA
      obtain ⟨⟨y0, y1, y2⟩, _⟩ := own3 (hA.loc _ mem1)
      go_wp2_with fail
      obtain ⟨⟨l, s1⟩, hr1, hr2⟩ := Option.bind_eq_some_iff.1 hres.out
      have hlv1 := (args_tame (mrd_tame f .formula) _ _ _ _ hr1).1
      have hres3 := Lib.hid (Option.some.inj hr2)
      refine (hargs.out _ W _ l s1 hA.ps (Lv.push _) hr1).mono ?_
      rintro r W2 ⟨ho, ⟨v, rfl, hk⟩, hp⟩
      replace hA := hA.callT ho hp hk
      clear y0 y1 y2 ho hp hk hr1 hr2
      obtain ⟨g1, m1, cp1, rfl⟩ := (hA.tr _ mem0).shape
      obtain ⟨⟨x0, x1, x2, x3, x4⟩, x5⟩ := own5 (hA.loc _ mem0)
      have x6 := hA.lt mem0
      go_upto_region 25 with (fail)
      replace hA := hA.set4 (.slice g1 m1 cp1)
      clear x0 x1 x2 x3 x4 x5 x6
      generalize World.setCell W2 _ _ = W at hA ⊢
      go_wp2_with fail
      refine hA.cPop (by rw [hlv1, mPush_lv]; omega) ?_
      clear hA
      intro W hA
      go_wp2_with fail
      refine hA.cNeed [41] ?_
      clear hA
      intro W hA
      go_upto_region 27 with (fail)
      obtain ⟨⟨z0, z1, z2, z3, z4⟩, _⟩ := own5 (hA.loc _ mem0)
      have hR := hA.one (x := (B, z5, 24)) mem2
      have hsb := hR.blk
      have hZ := hR.setSyn (.int .i64 10) (.string ⟨List.toArray ((tk T s.i).text)⟩) (.int .i64 0) (.int .i64 (tk T s.i).pos) (.slice g1 m1 cp1)
      obtain ⟨⟨⟨q0, q1, q2, q3, q4⟩, _⟩, _, _⟩ := hZ.c5
      have hout := Lib.hid (hZ.out (k := 10) (tx := (tk T s.i).text) (n := 0) (a := (tk T s.i).pos) mem0)
      clear hR hZ hA
      go_wp21
      exact bodyPost_ret (v := .agg #[.int .i64 10, .string ⟨List.toArray ((tk T s.i).text)⟩, .int .i64 0, .int .i64 (tk T s.i).pos, .slice g1 m1 cp1]) (by simp [results, Tryz.results174, go_sem, q0, q1, q2, q3, q4]) rfl (hres3.out ▸ hout.out)
    clear hA
    intro hi W hA
    have hres3 := Lib.hid (Option.some.inj ((if_neg (by rw [hi]; decide)).symm.trans hres.out))
    go_wp2_with fail
    refine hA.cFail 4 (by decide) ?_
    clear hA
    intro W hA
    go_upto_region 27 with (fail)
    obtain ⟨⟨z0, z1, z2, z3, z4⟩, _⟩ := own5 (hA.loc _ mem0)
    have hR := hA.one (x := (B, z5, 24)) mem2
    have hsb := hR.blk
    have hZ := hR.setSyn (.int .i64 10) (.string ⟨List.toArray ((tk T s.i).text)⟩) (.int .i64 0) (.int .i64 (tk T s.i).pos) (.slice none 0 0)
    obtain ⟨⟨⟨q0, q1, q2, q3, q4⟩, _⟩, _, _⟩ := hZ.c5
    have hout := Lib.hid (hZ.out (k := 10) (tx := (tk T s.i).text) (n := 0) (a := (tk T s.i).pos) mem0)
    clear hR hZ hA
    go_wp21
    exact bodyPost_ret (v := .agg #[.int .i64 10, .string ⟨List.toArray ((tk T s.i).text)⟩, .int .i64 0, .int .i64 (tk T s.i).pos, .slice none 0 0]) (by simp [results, Tryz.results174, go_sem, q0, q1, q2, q3, q4]) rfl (hres3.out ▸ hout.out)
  · -- behind an error
    have hb : (s.er != 0) = true := by rw [bne_iff_ne]; exact h0
    have hres3 := Lib.hid (Option.some.inj ((if_pos h0).symm.trans hres.out))
    replace h0 := Lib.hid h0
    have hout := Lib.hid (hA.leaf.out (k := 0) (tx := []) (n := 0) (a := 0) (List.mem_cons_self ..))
    go_enter Tryz.func174, Tryz.ntmps174
    go_wp2_with fail
    exact bodyPost_ret (v := .agg #[.int .i64 0, .string ⟨#[]⟩, .int .i64 0, .int .i64 0, .slice none 0 0]) (by simp [results, Tryz.results174, go_sem]) rfl (hres3.out ▸ hout.out)
end Go.Proofs.YtplbfmcgddnkeaaGreatDoor
end
