/- Walks of functions, and plain facts. -/
import Derived.Test.YtplbfmcgddnkeaaGreatDoorC39
import Derived.Test.YtplbfmcgddnkeaaGreatDoorC40
import Derived.Test.YtplbfmcgddnkeaaGreatDoorC41
import Derived.Test.YtplbfmcgddnkeaaGreatDoorC42
set_option linter.unusedVariables false
set_option linter.unusedSimpArgs false
set_option maxHeartbeats 20000000
set_option maxRecDepth 100000
namespace Go.Proofs.YtplbfmcgddnkeaaGreatDoor
open Go.RowKit
section
attribute [local go_sem ↓] Go.wp_at_zero Go.wp_at_succ
theorem Qhz (pb tb c : Nat) (T : List Tok) (m : MRd) (hc : RdM pb tb c T 88 #[.pointer (some ⟨pb, 0, none⟩), .int .i64 0] m) : RdM pb tb c T 45 #[.pointer (some ⟨pb, 0, none⟩)] m := RdM.of hc.tame fun w s o h hlv hres => by
 have hA := (AtR.begin h).alloc z5 24
 replace hc := qh hc
 replace hres := qh (show (m s).bind some = some o by rw [hres]; rfl)
 clear h
 go_enter Tryz.func45, Tryz.ntmps45
 go_wp2_with fail
 generalize w.heap.size = B at hA ⊢
 refine hA.cRd (hlv) hres.out hc.out ?_
 clear hA
 intro kd1 tx1 n1 a1 kids1 s1 g1 m1 cp1 W hres1 hlv1 hLv1 hA
 replace hres1 := qh hres1
 have hres3 := qh (Option.some.inj hres1.out)
 have hR := hA.one (x := (B, z5, 24)) mem0
 have hsb := hR.blk
 have hZ := hR.setSyn (.int .i64 kd1) (.string ⟨List.toArray (tx1)⟩) (.int .i64 n1) (.int .i64 a1) (.slice g1 m1 cp1)
 obtain ⟨⟨⟨q0, q1, q2, q3, q4⟩, _⟩, _, _⟩ := hZ.c5
 have hout := qh (hZ.out (k := kd1) (tx := tx1) (n := n1) (a := a1) mem0)
 clear hR hZ hA
 go_wp21
 exact bodyPost_ret (v := .agg #[.int .i64 kd1, .string ⟨List.toArray (tx1)⟩, .int .i64 n1, .int .i64 a1, .slice g1 m1 cp1]) (by simp [results, Tryz.results45, go_sem, q0, q1, q2, q3, q4]) rfl (hres3.out ▸ hout.out)
theorem Qg1 (pb tb c : Nat) (T : List Tok) (m : MRd) (hc : RdM pb tb c T 88 #[.pointer (some ⟨pb, 0, none⟩), .int .i64 4] m) : RdM pb tb c T 46 #[.pointer (some ⟨pb, 0, none⟩)] m := RdM.of hc.tame fun w s o h hlv hres => by
 have hA := (AtR.begin h).alloc z5 24
 replace hc := qh hc
 replace hres := qh (show (m s).bind some = some o by rw [hres]; rfl)
 clear h
 go_enter Tryz.func46, Tryz.ntmps46
 go_wp2_with fail
 generalize w.heap.size = B at hA ⊢
 refine hA.cRd (hlv) hres.out hc.out ?_
 clear hA
 intro kd1 tx1 n1 a1 kids1 s1 g1 m1 cp1 W hres1 hlv1 hLv1 hA
 replace hres1 := qh hres1
 have hres3 := qh (Option.some.inj hres1.out)
 have hR := hA.one (x := (B, z5, 24)) mem0
 have hsb := hR.blk
 have hZ := hR.setSyn (.int .i64 kd1) (.string ⟨List.toArray (tx1)⟩) (.int .i64 n1) (.int .i64 a1) (.slice g1 m1 cp1)
 obtain ⟨⟨⟨q0, q1, q2, q3, q4⟩, _⟩, _, _⟩ := hZ.c5
 have hout := qh (hZ.out (k := kd1) (tx := tx1) (n := n1) (a := a1) mem0)
 clear hR hZ hA
 go_wp21
 exact bodyPost_ret (v := .agg #[.int .i64 kd1, .string ⟨List.toArray (tx1)⟩, .int .i64 n1, .int .i64 a1, .slice g1 m1 cp1]) (by simp [results, Tryz.results46, go_sem, q0, q1, q2, q3, q4]) rfl (hres3.out ▸ hout.out)
theorem Qqs (pb tb c : Nat) (T : List Tok) (m : MRd) (hc : RdM pb tb c T 88 #[.pointer (some ⟨pb, 0, none⟩), .int .i64 1] m) : RdM pb tb c T 139 #[.pointer (some ⟨pb, 0, none⟩), .int .i64 0] m := RdM.of hc.tame fun w s o h hlv hres => by
 have hA := (AtR.begin h).alloc z5 24
 replace hc := qh hc
 replace hres := qh (show (m s).bind some = some o by rw [hres]; rfl)
 clear h
 go_enter Tryz.func139, Tryz.ntmps139
 go_wp2_with fail
 generalize w.heap.size = B at hA ⊢
 refine hA.cRd (hlv) hres.out hc.out ?_
 clear hA
 intro kd1 tx1 n1 a1 kids1 s1 g1 m1 cp1 W hres1 hlv1 hLv1 hA
 replace hres1 := qh hres1
 have hres3 := qh (Option.some.inj hres1.out)
 have hR := hA.one (x := (B, z5, 24)) mem0
 have hsb := hR.blk
 have hZ := hR.setSyn (.int .i64 kd1) (.string ⟨List.toArray (tx1)⟩) (.int .i64 n1) (.int .i64 a1) (.slice g1 m1 cp1)
 obtain ⟨⟨⟨q0, q1, q2, q3, q4⟩, _⟩, _, _⟩ := hZ.c5
 have hout := qh (hZ.out (k := kd1) (tx := tx1) (n := n1) (a := a1) mem0)
 clear hR hZ hA
 go_wp21
 exact bodyPost_ret (v := .agg #[.int .i64 kd1, .string ⟨List.toArray (tx1)⟩, .int .i64 n1, .int .i64 a1, .slice g1 m1 cp1]) (by simp [results, Tryz.results139, go_sem, q0, q1, q2, q3, q4]) rfl (hres3.out ▸ hout.out)
theorem Qk9 (pb tb c : Nat) (T : List Tok) (m : MRd) (hc : RdM pb tb c T 88 #[.pointer (some ⟨pb, 0, none⟩), .int .i64 5] m) : RdM pb tb c T 139 #[.pointer (some ⟨pb, 0, none⟩), .int .i64 4] m := RdM.of hc.tame fun w s o h hlv hres => by
 have hA := (AtR.begin h).alloc z5 24
 replace hc := qh hc
 replace hres := qh (show (m s).bind some = some o by rw [hres]; rfl)
 clear h
 go_enter Tryz.func139, Tryz.ntmps139
 go_wp2_with fail
 generalize w.heap.size = B at hA ⊢
 refine hA.cRd (hlv) hres.out hc.out ?_
 clear hA
 intro kd1 tx1 n1 a1 kids1 s1 g1 m1 cp1 W hres1 hlv1 hLv1 hA
 replace hres1 := qh hres1
 have hres3 := qh (Option.some.inj hres1.out)
 have hR := hA.one (x := (B, z5, 24)) mem0
 have hsb := hR.blk
 have hZ := hR.setSyn (.int .i64 kd1) (.string ⟨List.toArray (tx1)⟩) (.int .i64 n1) (.int .i64 a1) (.slice g1 m1 cp1)
 obtain ⟨⟨⟨q0, q1, q2, q3, q4⟩, _⟩, _, _⟩ := hZ.c5
 have hout := qh (hZ.out (k := kd1) (tx := tx1) (n := n1) (a := a1) mem0)
 clear hR hZ hA
 go_wp21
 exact bodyPost_ret (v := .agg #[.int .i64 kd1, .string ⟨List.toArray (tx1)⟩, .int .i64 n1, .int .i64 a1, .slice g1 m1 cp1]) (by simp [results, Tryz.results139, go_sem, q0, q1, q2, q3, q4]) rfl (hres3.out ▸ hout.out)
theorem Qim (pb tb c : Nat) (T : List Tok) (m : MRd) (hc : RdM pb tb c T 88 #[.pointer (some ⟨pb, 0, none⟩), .int .i64 7] m) : RdM pb tb c T 139 #[.pointer (some ⟨pb, 0, none⟩), .int .i64 6] m := RdM.of hc.tame fun w s o h hlv hres => by
 have hA := (AtR.begin h).alloc z5 24
 replace hc := qh hc
 replace hres := qh (show (m s).bind some = some o by rw [hres]; rfl)
 clear h
 go_enter Tryz.func139, Tryz.ntmps139
 go_wp2_with fail
 generalize w.heap.size = B at hA ⊢
 refine hA.cRd (hlv) hres.out hc.out ?_
 clear hA
 intro kd1 tx1 n1 a1 kids1 s1 g1 m1 cp1 W hres1 hlv1 hLv1 hA
 replace hres1 := qh hres1
 have hres3 := qh (Option.some.inj hres1.out)
 have hR := hA.one (x := (B, z5, 24)) mem0
 have hsb := hR.blk
 have hZ := hR.setSyn (.int .i64 kd1) (.string ⟨List.toArray (tx1)⟩) (.int .i64 n1) (.int .i64 a1) (.slice g1 m1 cp1)
 obtain ⟨⟨⟨q0, q1, q2, q3, q4⟩, _⟩, _, _⟩ := hZ.c5
 have hout := qh (hZ.out (k := kd1) (tx := tx1) (n := n1) (a := a1) mem0)
 clear hR hZ hA
 go_wp21
 exact bodyPost_ret (v := .agg #[.int .i64 kd1, .string ⟨List.toArray (tx1)⟩, .int .i64 n1, .int .i64 a1, .slice g1 m1 cp1]) (by simp [results, Tryz.results139, go_sem, q0, q1, q2, q3, q4]) rfl (hres3.out ▸ hout.out)
theorem Qt4 (pb tb c : Nat) (T : List Tok) (m : MRd) (hc : RdM pb tb c T 171 #[.pointer (some ⟨pb, 0, none⟩)] m) : RdM pb tb c T 139 #[.pointer (some ⟨pb, 0, none⟩), .int .i64 1] m := RdM.of hc.tame fun w s o h hlv hres => by
 have hA := (AtR.begin h).alloc z5 24
 replace hc := qh hc
 replace hres := qh (show (m s).bind some = some o by rw [hres]; rfl)
 clear h
 go_enter Tryz.func139, Tryz.ntmps139
 go_wp2_with fail
 generalize w.heap.size = B at hA ⊢
 refine hA.cRd (hlv) hres.out hc.out ?_
 clear hA
 intro kd1 tx1 n1 a1 kids1 s1 g1 m1 cp1 W hres1 hlv1 hLv1 hA
 replace hres1 := qh hres1
 have hres3 := qh (Option.some.inj hres1.out)
 have hR := hA.one (x := (B, z5, 24)) mem0
 have hsb := hR.blk
 have hZ := hR.setSyn (.int .i64 kd1) (.string ⟨List.toArray (tx1)⟩) (.int .i64 n1) (.int .i64 a1) (.slice g1 m1 cp1)
 obtain ⟨⟨⟨q0, q1, q2, q3, q4⟩, _⟩, _, _⟩ := hZ.c5
 have hout := qh (hZ.out (k := kd1) (tx := tx1) (n := n1) (a := a1) mem0)
 clear hR hZ hA
 go_wp21
 exact bodyPost_ret (v := .agg #[.int .i64 kd1, .string ⟨List.toArray (tx1)⟩, .int .i64 n1, .int .i64 a1, .slice g1 m1 cp1]) (by simp [results, Tryz.results139, go_sem, q0, q1, q2, q3, q4]) rfl (hres3.out ▸ hout.out)
theorem Qth (pb tb c : Nat) (T : List Tok) (m : MRd) (hc : RdM pb tb c T 172 #[.pointer (some ⟨pb, 0, none⟩)] m) : RdM pb tb c T 139 #[.pointer (some ⟨pb, 0, none⟩), .int .i64 3] m := RdM.of hc.tame fun w s o h hlv hres => by
 have hA := (AtR.begin h).alloc z5 24
 replace hc := qh hc
 replace hres := qh (show (m s).bind some = some o by rw [hres]; rfl)
 clear h
 go_enter Tryz.func139, Tryz.ntmps139
 go_wp2_with fail
 generalize w.heap.size = B at hA ⊢
 refine hA.cRd (hlv) hres.out hc.out ?_
 clear hA
 intro kd1 tx1 n1 a1 kids1 s1 g1 m1 cp1 W hres1 hlv1 hLv1 hA
 replace hres1 := qh hres1
 have hres3 := qh (Option.some.inj hres1.out)
 have hR := hA.one (x := (B, z5, 24)) mem0
 have hsb := hR.blk
 have hZ := hR.setSyn (.int .i64 kd1) (.string ⟨List.toArray (tx1)⟩) (.int .i64 n1) (.int .i64 a1) (.slice g1 m1 cp1)
 obtain ⟨⟨⟨q0, q1, q2, q3, q4⟩, _⟩, _, _⟩ := hZ.c5
 have hout := qh (hZ.out (k := kd1) (tx := tx1) (n := n1) (a := a1) mem0)
 clear hR hZ hA
 go_wp21
 exact bodyPost_ret (v := .agg #[.int .i64 kd1, .string ⟨List.toArray (tx1)⟩, .int .i64 n1, .int .i64 a1, .slice g1 m1 cp1]) (by simp [results, Tryz.results139, go_sem, q0, q1, q2, q3, q4]) rfl (hres3.out ▸ hout.out)
theorem Qst (pb tb c : Nat) (T : List Tok) (m : MRd) (hc : RdM pb tb c T 173 #[.pointer (some ⟨pb, 0, none⟩)] m) : RdM pb tb c T 139 #[.pointer (some ⟨pb, 0, none⟩), .int .i64 5] m := RdM.of hc.tame fun w s o h hlv hres => by
 have hA := (AtR.begin h).alloc z5 24
 replace hc := qh hc
 replace hres := qh (show (m s).bind some = some o by rw [hres]; rfl)
 clear h
 go_enter Tryz.func139, Tryz.ntmps139
 go_wp2_with fail
 generalize w.heap.size = B at hA ⊢
 refine hA.cRd (hlv) hres.out hc.out ?_
 clear hA
 intro kd1 tx1 n1 a1 kids1 s1 g1 m1 cp1 W hres1 hlv1 hLv1 hA
 replace hres1 := qh hres1
 have hres3 := qh (Option.some.inj hres1.out)
 have hR := hA.one (x := (B, z5, 24)) mem0
 have hsb := hR.blk
 have hZ := hR.setSyn (.int .i64 kd1) (.string ⟨List.toArray (tx1)⟩) (.int .i64 n1) (.int .i64 a1) (.slice g1 m1 cp1)
 obtain ⟨⟨⟨q0, q1, q2, q3, q4⟩, _⟩, _, _⟩ := hZ.c5
 have hout := qh (hZ.out (k := kd1) (tx := tx1) (n := n1) (a := a1) mem0)
 clear hR hZ hA
 go_wp21
 exact bodyPost_ret (v := .agg #[.int .i64 kd1, .string ⟨List.toArray (tx1)⟩, .int .i64 n1, .int .i64 a1, .slice g1 m1 cp1]) (by simp [results, Tryz.results139, go_sem, q0, q1, q2, q3, q4]) rfl (hres3.out ▸ hout.out)
theorem Qjf (pb tb c : Nat) (T : List Tok) (m : MRd) (hc : RdM pb tb c T 174 #[.pointer (some ⟨pb, 0, none⟩)] m) : RdM pb tb c T 139 #[.pointer (some ⟨pb, 0, none⟩), .int .i64 7] m := RdM.of hc.tame fun w s o h hlv hres => by
 have hA := (AtR.begin h).alloc z5 24
 replace hc := qh hc
 replace hres := qh (show (m s).bind some = some o by rw [hres]; rfl)
 clear h
 go_enter Tryz.func139, Tryz.ntmps139
 go_wp2_with fail
 generalize w.heap.size = B at hA ⊢
 refine hA.cRd (hlv) hres.out hc.out ?_
 clear hA
 intro kd1 tx1 n1 a1 kids1 s1 g1 m1 cp1 W hres1 hlv1 hLv1 hA
 replace hres1 := qh hres1
 have hres3 := qh (Option.some.inj hres1.out)
 have hR := hA.one (x := (B, z5, 24)) mem0
 have hsb := hR.blk
 have hZ := hR.setSyn (.int .i64 kd1) (.string ⟨List.toArray (tx1)⟩) (.int .i64 n1) (.int .i64 a1) (.slice g1 m1 cp1)
 obtain ⟨⟨⟨q0, q1, q2, q3, q4⟩, _⟩, _, _⟩ := hZ.c5
 have hout := qh (hZ.out (k := kd1) (tx := tx1) (n := n1) (a := a1) mem0)
 clear hR hZ hA
 go_wp21
 exact bodyPost_ret (v := .agg #[.int .i64 kd1, .string ⟨List.toArray (tx1)⟩, .int .i64 n1, .int .i64 a1, .slice g1 m1 cp1]) (by simp [results, Tryz.results139, go_sem, q0, q1, q2, q3, q4]) rfl (hres3.out ▸ hout.out)
theorem Qot (pb tb c f : Nat) (T : List Tok) (s : St) (w : World) (o : Syn × St) (h : PR pb tb c T s w) (hlv : Lv s)
  (hdis : RdM pb tb c T 88 #[.pointer (some ⟨pb, 0, none⟩), .int .i64 6] (mrd Q0 T f .disj))
  (hfor : RdM pb tb c T 47 #[.pointer (some ⟨pb, 0, none⟩)] (mrd Q0 T f .formula))
  (hres : mrd Q0 T (f + 1) .formula s = some o) : Calls Tryz.prog 47 #[.pointer (some ⟨pb, 0, none⟩)] w (ROut pb tb c T w o.1 o.2) := by
 have hA := (AtR.begin h).alloc z5 24
 obtain ⟨d0, d1, d2, d3, d4⟩ := h.cells
 have hpos := h.pos
 have f0 := h.frozen
 rw [mrd] at hres
 dsimp only at hres
 replace hres := qh hres
 clear h
 clear d0 d1 d2 d3 d4 f0
 replace hdis := qh hdis
 replace hfor := qh hfor
 go_enter Tryz.func47, Tryz.ntmps47
 go_wp2_with fail
 generalize w.heap.size = B at hA ⊢
 refine hA.cRd (hlv) hres.out hdis.out ?_
 clear hA
 intro kd1 tx1 n1 a1 kids1 s1 g1 m1 cp1 W hres1 hlv1 hLv1 hA
 replace hres1 := qh hres1
 go_upto_region 2 with (fail)
 replace hA := hA.alloc [.int .i64 kd1, .string ⟨List.toArray (tx1)⟩, .int .i64 n1, .int .i64 a1, .slice g1 m1 cp1] 24
 generalize W.heap.size = N at hA ⊢
 generalize World.alloc W _ = W at hA ⊢
 obtain ⟨d0, d1, d2, d3, d4⟩ := hA.ps.cells
 by_cases h1 : s1.er = 0
 ·have hb1 : (s1.er == 0) = true := by rw [beq_iff_eq]; exact h1
  have hl := hLv1 h1
  replace h1 := qh h1
  go_wp2_with fail
  refine hA.cIs [117, 110, 116, 105, 108] ?_ ?_
  ·clear hA d0 d1 d2 d3 d4
   intro hi W hA
   have hres3 := qh (Option.some.inj ((if_neg (fun k => by rw [hi] at k; cases k.2)).symm.trans hres1.out))
   go_upto_region 8 with (fail)
   obtain ⟨⟨z0, z1, z2, z3, z4⟩, _⟩ := own5 (hA.loc _ mem0)
   have hR := hA.one (x := (B, z5, 24)) mem1
   have hsb := hR.blk
   have hZ := hR.setSyn (.int .i64 kd1) (.string ⟨List.toArray (tx1)⟩) (.int .i64 n1) (.int .i64 a1) (.slice g1 m1 cp1)
   obtain ⟨⟨⟨q0, q1, q2, q3, q4⟩, _⟩, _, _⟩ := hZ.c5
   have hout := qh (hZ.out (k := kd1) (tx := tx1) (n := n1) (a := a1) mem0)
   clear hR hZ hA
   go_wp21
   exact bodyPost_ret (v := .agg #[.int .i64 kd1, .string ⟨List.toArray (tx1)⟩, .int .i64 n1, .int .i64 a1, .slice g1 m1 cp1]) (by simp [results, Tryz.results47, go_sem, q0, q1, q2, q3, q4]) rfl (hres3.out ▸ hout.out)
  ·clear hA d0 d1 d2 d3 d4
   intro hi W hA
   replace hres1 := qh ((if_pos ⟨h1.out, hi⟩).symm.trans hres1.out)
   go_wp2_with fail
   refine hA.cTake ?_
   clear hA
   intro W hA
   go_wp2_with fail
   refine hA.cPush (by rw [Qp]; exact hl) ?_
   clear hA
   intro W hA
   go_wp2_with fail
   refine hA.cRd (Lv.push _) hres1.out hfor.out ?_
   clear hA
   intro kd2 tx2 n2 a2 kids2 s2 g2 m2 cp2 W hres2 hlv2 hLv2 hA
   replace hres2 := qh hres2
   go_upto_region 6 with (fail)
   replace hA := hA.alloc [.int .i64 kd2, .string ⟨List.toArray (tx2)⟩, .int .i64 n2, .int .i64 a2, .slice g2 m2 cp2] 24
   generalize W.heap.size = N2 at hA ⊢
   generalize World.alloc W _ = W at hA ⊢
   go_wp2_with fail
   refine hA.cPop (by rw [hlv2, Q08]; omega) ?_
   clear hA
   intro W hA
   obtain ⟨⟨l0, l1, l2, l3, l4⟩, -⟩ := own5 (hA.loc _ mem0)
   obtain ⟨⟨k0, k1, k2, k3, k4⟩, -⟩ := own5 (hA.loc _ mem1)
   go_wp2_with fail
   refine hA.cBin mem1 mem0 ?_
   clear l0 l1 l2 l3 l4 k0 k1 k2 k3 k4 hA
   intro g9 m9 cp9 W hA
   have hsb := (hA.drop).blk
   go_upto_region 8 with (fail)
   replace hA := hA.drop.setSyn (.int .i64 11) (.string ⟨List.toArray ([117, 110, 116, 105, 108])⟩) (.int .i64 0) (.int .i64 a1) (.slice g9 m9 cp9)
   generalize setSyn W _ _ _ _ _ _ = W at hA ⊢
   have hres3 := qh (Option.some.inj hres2.out)
   obtain ⟨⟨z0, z1, z2, z3, z4⟩, _⟩ := own5 (hA.loc _ mem0)
   have hR := hA.one (x := (B, z5, 24)) mem1
   have hsb := hR.blk
   have hZ := hR.setSyn (.int .i64 11) (.string ⟨List.toArray ([117, 110, 116, 105, 108])⟩) (.int .i64 0) (.int .i64 a1) (.slice g9 m9 cp9)
   obtain ⟨⟨⟨q0, q1, q2, q3, q4⟩, _⟩, _, _⟩ := hZ.c5
   have hout := qh (hZ.out (k := 11) (tx := [117, 110, 116, 105, 108]) (n := 0) (a := a1) mem0)
   clear hR hZ hA
   go_wp21
   exact bodyPost_ret (v := .agg #[.int .i64 11, .string ⟨List.toArray ([117, 110, 116, 105, 108])⟩, .int .i64 0, .int .i64 a1, .slice g9 m9 cp9]) (by simp [results, Tryz.results47, go_sem, q0, q1, q2, q3, q4]) rfl (hres3.out ▸ hout.out)
 ·have hb1 : (s1.er == 0) = false := by rw [beq_eq_false_iff_ne]; exact h1
  have hres3 := qh (Option.some.inj ((if_neg (fun k => h1 k.1)).symm.trans hres1.out))
  replace h1 := qh h1
  clear d0 d1 d2 d4
  go_upto_region 8 with (fail)
  obtain ⟨⟨z0, z1, z2, z3, z4⟩, _⟩ := own5 (hA.loc _ mem0)
  have hR := hA.one (x := (B, z5, 24)) mem1
  have hsb := hR.blk
  have hZ := hR.setSyn (.int .i64 kd1) (.string ⟨List.toArray (tx1)⟩) (.int .i64 n1) (.int .i64 a1) (.slice g1 m1 cp1)
  obtain ⟨⟨⟨q0, q1, q2, q3, q4⟩, _⟩, _, _⟩ := hZ.c5
  have hout := qh (hZ.out (k := kd1) (tx := tx1) (n := n1) (a := a1) mem0)
  clear hR hZ hA
  go_wp21
  exact bodyPost_ret (v := .agg #[.int .i64 kd1, .string ⟨List.toArray (tx1)⟩, .int .i64 n1, .int .i64 a1, .slice g1 m1 cp1]) (by simp [results, Tryz.results47, go_sem, q0, q1, q2, q3, q4]) rfl (hres3.out ▸ hout.out)
theorem Qku (pb tb c f : Nat) (T : List Tok) (s : St) (w : World) (o : Syn × St) (h : PR pb tb c T s w) (hlv : Lv s)
  (hatom : ∀ W s o, PR pb tb c T s W → s.lv ≤ 128 → mrd Q0 T f .atom s = some o → Calls Tryz.prog 195 #[.pointer (some ⟨pb, 0, none⟩)] W (ROut pb tb c T W o.1 o.2))
  (hfac : RdM pb tb c T 173 #[.pointer (some ⟨pb, 0, none⟩)] (mrd Q0 T f .factor))
  (hres : mrd Q0 T (f + 1) .factor s = some o) : Calls Tryz.prog 173 #[.pointer (some ⟨pb, 0, none⟩)] w (ROut pb tb c T w o.1 o.2) := by
 have hA := (AtR.begin h).alloc z5 24
 obtain ⟨d0, d1, d2, d3, d4⟩ := h.cells
 have hpos := h.pos
 have f0 := h.frozen
 rw [mrd] at hres
 dsimp only at hres
 replace hres := qh hres
 clear h
 replace hatom := qh hatom
 replace hfac := qh hfac
 by_cases h0 : s.er = 0
 ·skip
  have hb : (s.er != 0) = false := by rw [bne_eq_false_iff_eq]; exact h0
  replace hres := qh ((if_neg (fun k => k h0)).symm.trans hres.out)
  have hl := hlv h0
  replace h0 := qh h0
  go_enter Tryz.func173, Tryz.ntmps173
  go_wp2_with fail
  generalize w.heap.size = B at hA ⊢
  refine hA.cRd1 hlv hres.out (Q8a f .atom) (fun o ho => hatom.out _ _ _ hA.ps hl ho) ?_
  clear hA d0 d1 d2 d3 d4 f0
  intro kd1 tx1 n1 a1 kids1 s1 g1 m1 cp1 W hres1 hlv1 hLv1 hA
  replace hres1 := qh hres1
  go_upto_region 4 with (fail)
  replace hA := hA.alloc [.int .i64 kd1, .string ⟨List.toArray (tx1)⟩, .int .i64 n1, .int .i64 a1, .slice g1 m1 cp1] 24
  generalize W.heap.size = N at hA ⊢
  generalize World.alloc W _ = W at hA ⊢
  obtain ⟨d0, d1, d2, d3, d4⟩ := hA.ps.cells
  by_cases h1 : s1.er = 0
  ·have hb1 : (s1.er == 0) = true := by rw [beq_iff_eq]; exact h1
   have hl1 := hLv1 h1
   replace h1 := qh h1
   go_wp2_with fail
   refine hA.cIs [116, 104, 101, 110] ?_ ?_
   ·clear hA d0 d1 d2 d3 d4
    intro hi W hA
    have hres3 := qh (Option.some.inj ((if_neg (fun k => by rw [hi] at k; cases k.2)).symm.trans hres1.out))
    go_upto_region 11 with (fail)
    obtain ⟨⟨z0, z1, z2, z3, z4⟩, _⟩ := own5 (hA.loc _ mem0)
    have hR := hA.one (x := (B, z5, 24)) mem1
    have hsb := hR.blk
    have hZ := hR.setSyn (.int .i64 kd1) (.string ⟨List.toArray (tx1)⟩) (.int .i64 n1) (.int .i64 a1) (.slice g1 m1 cp1)
    obtain ⟨⟨⟨q0, q1, q2, q3, q4⟩, _⟩, _, _⟩ := hZ.c5
    have hout := qh (hZ.out (k := kd1) (tx := tx1) (n := n1) (a := a1) mem0)
    clear hR hZ hA
    go_wp21
    exact bodyPost_ret (v := .agg #[.int .i64 kd1, .string ⟨List.toArray (tx1)⟩, .int .i64 n1, .int .i64 a1, .slice g1 m1 cp1]) (by simp [results, Tryz.results173, go_sem, q0, q1, q2, q3, q4]) rfl (hres3.out ▸ hout.out)
   ·clear hA d0 d1 d2 d3 d4
    intro hi W hA
    replace hres1 := qh ((if_pos ⟨h1.out, hi⟩).symm.trans hres1.out)
    go_wp2_with fail
    refine hA.cTake ?_
    clear hA
    intro W hA
    go_wp2_with fail
    refine hA.cNumber ?_
    clear hA
    intro g7 m7 cp7 W hA
    go_wp2_with fail
    refine hA.cPush (by rw [Q32, Qp]; exact hl1) ?_
    clear hA
    intro W hA
    go_wp2_with fail
    refine hA.cRd (Lv.push _) hres1.out hfac.out ?_
    clear hA
    intro kd2 tx2 n2 a2 kids2 s2 g2 m2 cp2 W hres2 hlv2 hLv2 hA
    replace hres2 := qh hres2
    replace hA := hA.weak (ts' := [(kids2, .slice g2 m2 cp2), (kids1, .slice g1 m1 cp1)]) (fun x hx => by
     rcases List.mem_cons.1 hx with rfl | hx
     ·exact mem0
     ·rw [List.mem_singleton.1 hx]; exact mem2)
    go_upto_region 9 with (fail)
    replace hA := hA.alloc [.int .i64 kd2, .string ⟨List.toArray (tx2)⟩, .int .i64 n2, .int .i64 a2, .slice g2 m2 cp2] 24
    generalize W.heap.size = N2 at hA ⊢
    generalize World.alloc W _ = W at hA ⊢
    go_wp2_with fail
    refine hA.cPop (by rw [hlv2, Q08]; omega) ?_
    clear hA
    intro W hA
    obtain ⟨⟨l0, l1, l2, l3, l4⟩, -⟩ := own5 (hA.loc _ mem0)
    obtain ⟨⟨k0, k1, k2, k3, k4⟩, -⟩ := own5 (hA.loc _ mem1)
    go_wp2_with fail
    refine hA.cBin mem1 mem0 ?_
    clear l0 l1 l2 l3 l4 k0 k1 k2 k3 k4 hA
    intro g9 m9 cp9 W hA
    have hsb := (hA.drop).blk
    go_upto_region 11 with (fail)
    replace hA := hA.drop.setSyn (.int .i64 11) (.string ⟨List.toArray ([116, 104, 101, 110])⟩) (.int .i64 (mVal (tk T (Q8 T s1).i).text)) (.int .i64 a1) (.slice g9 m9 cp9)
    generalize setSyn W _ _ _ _ _ _ = W at hA ⊢
    have hres3 := qh (Option.some.inj hres2.out)
    obtain ⟨⟨z0, z1, z2, z3, z4⟩, _⟩ := own5 (hA.loc _ mem0)
    have hR := hA.one (x := (B, z5, 24)) mem1
    have hsb := hR.blk
    have hZ := hR.setSyn (.int .i64 11) (.string ⟨List.toArray ([116, 104, 101, 110])⟩) (.int .i64 (mVal (tk T (Q8 T s1).i).text)) (.int .i64 a1) (.slice g9 m9 cp9)
    obtain ⟨⟨⟨q0, q1, q2, q3, q4⟩, _⟩, _, _⟩ := hZ.c5
    have hout := qh (hZ.out (k := 11) (tx := [116, 104, 101, 110]) (n := (mVal (tk T (Q8 T s1).i).text)) (a := a1) mem0)
    clear hR hZ hA
    go_wp21
    exact bodyPost_ret (v := .agg #[.int .i64 11, .string ⟨List.toArray ([116, 104, 101, 110])⟩, .int .i64 (mVal (tk T (Q8 T s1).i).text), .int .i64 a1, .slice g9 m9 cp9]) (by simp [results, Tryz.results173, go_sem, q0, q1, q2, q3, q4]) rfl (hres3.out ▸ hout.out)
  ·have hb1 : (s1.er == 0) = false := by rw [beq_eq_false_iff_ne]; exact h1
   have hres3 := qh (Option.some.inj ((if_neg (fun k => h1 k.1)).symm.trans hres1.out))
   replace h1 := qh h1
   clear d0 d1 d2 d4
   go_upto_region 11 with (fail)
   obtain ⟨⟨z0, z1, z2, z3, z4⟩, _⟩ := own5 (hA.loc _ mem0)
   have hR := hA.one (x := (B, z5, 24)) mem1
   have hsb := hR.blk
   have hZ := hR.setSyn (.int .i64 kd1) (.string ⟨List.toArray (tx1)⟩) (.int .i64 n1) (.int .i64 a1) (.slice g1 m1 cp1)
   obtain ⟨⟨⟨q0, q1, q2, q3, q4⟩, _⟩, _, _⟩ := hZ.c5
   have hout := qh (hZ.out (k := kd1) (tx := tx1) (n := n1) (a := a1) mem0)
   clear hR hZ hA
   go_wp21
   exact bodyPost_ret (v := .agg #[.int .i64 kd1, .string ⟨List.toArray (tx1)⟩, .int .i64 n1, .int .i64 a1, .slice g1 m1 cp1]) (by simp [results, Tryz.results173, go_sem, q0, q1, q2, q3, q4]) rfl (hres3.out ▸ hout.out)
 ·-- behind an error
  have hb : (s.er != 0) = true := by rw [bne_iff_ne]; exact h0
  have hres3 := qh (Option.some.inj ((if_pos h0).symm.trans hres.out))
  replace h0 := qh h0
  have hout := qh (hA.leaf.out (k := 0) (tx := []) (n := 0) (a := 0) (List.mem_cons_self ..))
  go_enter Tryz.func173, Tryz.ntmps173
  go_wp2_with fail
  exact bodyPost_ret (v := .agg #[.int .i64 0, .string ⟨#[]⟩, .int .i64 0, .int .i64 0, .slice none 0 0]) (by simp [results, Tryz.results173, go_sem]) rfl (hres3.out ▸ hout.out)
end
section
attribute [local go_sem ↓] Go.wp_at_zero Go.wp_at_succ
theorem Qjc (pb tb c f : Nat) (T : List Tok) (s : St) (w : World) (o : Syn × St) (h : PR pb tb c T s w) (hl : s.lv ≤ 128)
  (hcond : RdM pb tb c T 45 #[.pointer (some ⟨pb, 0, none⟩)] (mrd Q0 T f .cond))
  (hsch : RdM pb tb c T 46 #[.pointer (some ⟨pb, 0, none⟩)] (mrd Q0 T f .scheme))
  (hres : mrd Q0 T (f + 1) .atom s = some o) : Calls Tryz.prog 195 #[.pointer (some ⟨pb, 0, none⟩)] w (ROut pb tb c T w o.1 o.2) := by
 have hA := (AtR.begin h).alloc z5 24
 obtain ⟨d0, d1, d2, d3, d4⟩ := h.cells
 have hpos := h.pos
 have f0 := h.frozen
 rw [mrd] at hres
 dsimp only at hres
 replace hres := qh hres
 clear h
 replace hcond := qh hcond
 replace hsch := qh hsch
 go_enter Tryz.func195, Tryz.ntmps195
 go_wp2_with fail
 generalize w.heap.size = B at hA ⊢
 refine hA.cTok ?_
 clear hA
 try clear d0 d1 d2 d3 d4 f0
 intro W hA
 go_upto_region 2 with (fail)
 replace hA := hA.alloc [.int .i64 (tk T s.i).kind, .string ⟨(tk T s.i).text.toArray⟩, .int .i64 (tk T s.i).pos] 45
 generalize W.heap.size = M at hA ⊢
 generalize World.alloc W _ = W at hA ⊢
 obtain ⟨⟨y0, y1, y2⟩, _⟩ := own3 (hA.loc _ mem0)
 go_upto_region 4 with (fail)
 replace hA := hA.leaf.alloc [.int .i64 10, .string ⟨(tk T s.i).text.toArray⟩, .int .i64 0, .int .i64 (tk T s.i).pos, .slice none 0 0] 24
 generalize W.heap.size = N at hA ⊢
 generalize World.alloc W _ = W at hA ⊢
 clear y0 y1 y2
 go_wp2_with fail
 refine hA.cNamed ?_ ?_
 rotate_left
 ·clear hA
  intro hi W hA
  have hres3 := qh (Option.some.inj ((if_pos hi).symm.trans hres.out))
  go_wp2_with fail
  refine hA.cName ?_
  clear hA
  intro g1 m1 cp1 W hA
  have hR := hA.one (x := (B, z5, 24)) mem2
  have hsb := hR.blk
  have hZ := hR.setSyn (.int .i64 8) (.string ⟨List.toArray ((tk T s.i).text)⟩) (.int .i64 0) (.int .i64 (tk T s.i).pos) (.slice g1 m1 cp1)
  obtain ⟨⟨⟨q0, q1, q2, q3, q4⟩, _⟩, _, _⟩ := hZ.c5
  have hout := qh (hZ.out (k := 8) (tx := (tk T s.i).text) (n := 0) (a := (tk T s.i).pos) mem0)
  clear hR hZ hA
  go_wp21
  exact bodyPost_ret (v := .agg #[.int .i64 8, .string ⟨List.toArray ((tk T s.i).text)⟩, .int .i64 0, .int .i64 (tk T s.i).pos, .slice g1 m1 cp1]) (by simp [results, Tryz.results195, go_sem, q0, q1, q2, q3, q4]) rfl (hres3.out ▸ hout.out)
 clear hA
 intro hi W hA
 replace hres := qh ((if_neg (by rw [hi]; decide)).symm.trans hres.out)
 go_wp2_with fail
 refine hA.cAmong [[99, 114, 97, 115, 104], [115, 101, 110, 100], [114, 101, 99, 101, 105, 118, 101], [111, 109, 105, 116], [112, 97, 114, 116, 105, 116, 105, 111, 110]] (by decide) rfl rfl rfl ?_ ?_
 rotate_left
 ·clear hA
  intro hi W hA
  have hres3 := qh (Option.some.inj ((if_pos hi).symm.trans hres.out))
  go_wp2_with fail
  refine hA.cTake ?_
  clear hA
  intro W hA
  go_wp2_with fail
  refine hA.cNeed [40] ?_
  clear hA
  intro W hA
  go_wp2_with fail
  refine hA.cPush (by rw [Qy, Qp]; exact hl) ?_
  clear hA
  intro W hA
  go_wp2_with fail
  refine hA.cNumber ?_
  clear hA
  intro g1 m1 cp1 W hA
  obtain ⟨⟨x0, x1, x2, x3, x4⟩, x5⟩ := own5 (hA.loc _ mem0)
  have x6 := hA.lt mem0
  go_upto_region 11 with (fail)
  clear x0 x1 x2 x3 x4 x5 x6
  replace hA := (hA.set4 (.slice (some ⟨W.heap.size, 0, none⟩) 1 1)).slice1 (k := 9) (tx := []) (n := (mVal (tk T (Qo T (Q7 T [40] (Q8 T s))).i).text)) (a := (tk T (Qo T (Q7 T [40] (Q8 T s))).i).pos) mem0
  simp only [Q6n] at hA
  generalize World.alloc (World.setCell W _ _) _ = W' at hA ⊢
  generalize W.heap.size = Z at hA ⊢
  clear W
  rename_i W
  go_wp2_with fail
  refine hA.cPop (by rw [Q32, Q08]; omega) ?_
  clear hA
  intro W hA
  go_wp2_with fail
  refine hA.cNeed [41] ?_
  clear hA
  intro W hA
  go_upto_region 28 with (fail)
  obtain ⟨⟨z0, z1, z2, z3, z4⟩, _⟩ := own5 (hA.loc _ mem0)
  have hR := hA.one (x := (B, z5, 24)) mem2
  have hsb := hR.blk
  have hZ := hR.setSyn (.int .i64 10) (.string ⟨List.toArray ((tk T s.i).text)⟩) (.int .i64 0) (.int .i64 (tk T s.i).pos) (.slice (some ⟨Z, 0, none⟩) 1 1)
  obtain ⟨⟨⟨q0, q1, q2, q3, q4⟩, _⟩, _, _⟩ := hZ.c5
  have hout := qh (hZ.out (k := 10) (tx := (tk T s.i).text) (n := 0) (a := (tk T s.i).pos) mem0)
  clear hR hZ hA
  go_wp21
  exact bodyPost_ret (v := .agg #[.int .i64 10, .string ⟨List.toArray ((tk T s.i).text)⟩, .int .i64 0, .int .i64 (tk T s.i).pos, .slice (some ⟨Z, 0, none⟩) 1 1]) (by simp [results, Tryz.results195, go_sem, q0, q1, q2, q3, q4]) rfl (hres3.out ▸ hout.out)
 clear hA
 intro hi W hA
 replace hres := qh ((if_neg (by rw [hi]; decide)).symm.trans hres.out)
 go_wp2_with fail
 refine hA.cIs [115, 110, 97, 112, 115, 104, 111, 116] ?_ ?_
 rotate_left
 ·clear hA
  intro hi W hA
  have hres3 := qh (Option.some.inj ((if_pos hi).symm.trans hres.out))
  go_wp2_with fail
  refine hA.cTake ?_
  clear hA
  intro W hA
  go_upto_region 28 with (fail)
  obtain ⟨⟨z0, z1, z2, z3, z4⟩, _⟩ := own5 (hA.loc _ mem0)
  have hR := hA.one (x := (B, z5, 24)) mem2
  have hsb := hR.blk
  have hZ := hR.setSyn (.int .i64 10) (.string ⟨List.toArray ((tk T s.i).text)⟩) (.int .i64 0) (.int .i64 (tk T s.i).pos) (.slice none 0 0)
  obtain ⟨⟨⟨q0, q1, q2, q3, q4⟩, _⟩, _, _⟩ := hZ.c5
  have hout := qh (hZ.out (k := 10) (tx := (tk T s.i).text) (n := 0) (a := (tk T s.i).pos) mem0)
  clear hR hZ hA
  go_wp21
  exact bodyPost_ret (v := .agg #[.int .i64 10, .string ⟨List.toArray ((tk T s.i).text)⟩, .int .i64 0, .int .i64 (tk T s.i).pos, .slice none 0 0]) (by simp [results, Tryz.results195, go_sem, q0, q1, q2, q3, q4]) rfl (hres3.out ▸ hout.out)
 clear hA
 intro hi W hA
 replace hres := qh ((if_neg (by rw [hi]; decide)).symm.trans hres.out)
 go_wp2_with fail
 refine hA.cIs [103, 114, 97, 112, 104, 115] ?_ ?_
 rotate_left
 ·clear hA
  intro hi W hA
  replace hres := qh ((if_pos hi).symm.trans hres.out)
  go_wp2_with fail
  refine hA.cTake ?_
  clear hA
  intro W hA
  go_wp2_with fail
  refine hA.cNeed [40] ?_
  clear hA
  intro W hA
  go_wp2_with fail
  refine hA.cPush (by rw [Qy, Qp]; exact hl) ?_
  clear hA
  intro W hA
  go_wp2_with fail
  refine hA.cRd (Lv.push _) hres.out hcond.out ?_
  clear hA
  intro kd1 tx1 n1 a1 kids1 s1 g1 m1 cp1 W hres1 hlv1 hLv1 hA
  replace hres1 := qh hres1
  obtain ⟨⟨x0, x1, x2, x3, x4⟩, x5⟩ := own5 (hA.loc _ mem0)
  have x6 := hA.lt mem0
  go_upto_region 20 with (fail)
  clear x0 x1 x2 x3 x4 x5 x6
  replace hA := (hA.set4 (.slice (some ⟨W.heap.size, 0, none⟩) 1 1)).slice1 (k := kd1) (tx := tx1) (n := n1) (a := a1) mem0
  simp only [Q6n] at hA
  generalize World.alloc (World.setCell W _ _) _ = W' at hA ⊢
  generalize W.heap.size = Z at hA ⊢
  clear W
  rename_i W
  go_wp2_with fail
  refine hA.cPop (by rw [hlv1, Q08]; omega) ?_
  clear hA
  intro W hA
  go_wp2_with fail
  refine hA.cNeed [41] ?_
  clear hA
  intro W hA
  have hres3 := qh (Option.some.inj hres1.out)
  go_upto_region 28 with (fail)
  obtain ⟨⟨z0, z1, z2, z3, z4⟩, _⟩ := own5 (hA.loc _ mem0)
  have hR := hA.one (x := (B, z5, 24)) mem2
  have hsb := hR.blk
  have hZ := hR.setSyn (.int .i64 10) (.string ⟨List.toArray ((tk T s.i).text)⟩) (.int .i64 0) (.int .i64 (tk T s.i).pos) (.slice (some ⟨Z, 0, none⟩) 1 1)
  obtain ⟨⟨⟨q0, q1, q2, q3, q4⟩, _⟩, _, _⟩ := hZ.c5
  have hout := qh (hZ.out (k := 10) (tx := (tk T s.i).text) (n := 0) (a := (tk T s.i).pos) mem0)
  clear hR hZ hA
  go_wp21
  exact bodyPost_ret (v := .agg #[.int .i64 10, .string ⟨List.toArray ((tk T s.i).text)⟩, .int .i64 0, .int .i64 (tk T s.i).pos, .slice (some ⟨Z, 0, none⟩) 1 1]) (by simp [results, Tryz.results195, go_sem, q0, q1, q2, q3, q4]) rfl (hres3.out ▸ hout.out)
 clear hA
 intro hi W hA
 replace hres := qh ((if_neg (by rw [hi]; decide)).symm.trans hres.out)
 go_wp2_with fail
 refine hA.cIs [40] ?_ ?_
 rotate_left
 ·clear hA
  intro hi W hA
  replace hres := qh ((if_pos hi).symm.trans hres.out)
  go_wp2_with fail
  refine hA.cTake ?_
  clear hA
  intro W hA
  go_wp2_with fail
  refine hA.cPush (by rw [Qp]; exact hl) ?_
  clear hA
  intro W hA
  go_wp2_with fail
  refine hA.cRd (Lv.push _) hres.out hsch.out ?_
  clear hA
  intro kd1 tx1 n1 a1 kids1 s1 g1 m1 cp1 W hres1 hlv1 hLv1 hA
  replace hres1 := qh hres1
  have hsb := hA.blk
  go_upto_region 26 with (fail)
  replace hA := hA.setSyn (.int .i64 kd1) (.string ⟨List.toArray (tx1)⟩) (.int .i64 n1) (.int .i64 a1) (.slice g1 m1 cp1)
  generalize setSyn W _ _ _ _ _ _ = W at hA ⊢
  go_wp2_with fail
  refine hA.cPop (by rw [hlv1, Q08]; omega) ?_
  clear hA
  intro W hA
  go_wp2_with fail
  refine hA.cNeed [41] ?_
  clear hA
  intro W hA
  have hres3 := qh (Option.some.inj hres1.out)
  go_upto_region 28 with (fail)
  obtain ⟨⟨z0, z1, z2, z3, z4⟩, _⟩ := own5 (hA.loc _ mem0)
  have hR := hA.one (x := (B, z5, 24)) mem2
  have hsb := hR.blk
  have hZ := hR.setSyn (.int .i64 kd1) (.string ⟨List.toArray (tx1)⟩) (.int .i64 n1) (.int .i64 a1) (.slice g1 m1 cp1)
  obtain ⟨⟨⟨q0, q1, q2, q3, q4⟩, _⟩, _, _⟩ := hZ.c5
  have hout := qh (hZ.out (k := kd1) (tx := tx1) (n := n1) (a := a1) mem0)
  clear hR hZ hA
  go_wp21
  exact bodyPost_ret (v := .agg #[.int .i64 kd1, .string ⟨List.toArray (tx1)⟩, .int .i64 n1, .int .i64 a1, .slice g1 m1 cp1]) (by simp [results, Tryz.results195, go_sem, q0, q1, q2, q3, q4]) rfl (hres3.out ▸ hout.out)
 clear hA
 intro hi W hA
 have hres3 := qh (Option.some.inj ((if_neg (by rw [hi]; decide)).symm.trans hres.out))
 go_wp2_with fail
 refine hA.cFail 4 (by decide) ?_
 clear hA
 intro W hA
 go_upto_region 28 with (fail)
 obtain ⟨⟨z0, z1, z2, z3, z4⟩, _⟩ := own5 (hA.loc _ mem0)
 have hR := hA.one (x := (B, z5, 24)) mem2
 have hsb := hR.blk
 have hZ := hR.setSyn (.int .i64 10) (.string ⟨List.toArray ((tk T s.i).text)⟩) (.int .i64 0) (.int .i64 (tk T s.i).pos) (.slice none 0 0)
 obtain ⟨⟨⟨q0, q1, q2, q3, q4⟩, _⟩, _, _⟩ := hZ.c5
 have hout := qh (hZ.out (k := 10) (tx := (tk T s.i).text) (n := 0) (a := (tk T s.i).pos) mem0)
 clear hR hZ hA
 go_wp21
 exact bodyPost_ret (v := .agg #[.int .i64 10, .string ⟨List.toArray ((tk T s.i).text)⟩, .int .i64 0, .int .i64 (tk T s.i).pos, .slice none 0 0]) (by simp [results, Tryz.results195, go_sem, q0, q1, q2, q3, q4]) rfl (hres3.out ▸ hout.out)
end
section
attribute [local go_sem ↓] Go.wp_at_zero Go.wp_at_succ
attribute [local go_sem ↓] Q48
def mFn (pb : Nat) : NT → Nat × Array Value
 | .cond => (88, #[.pointer (some ⟨pb, 0, none⟩), .int .i64 0])
 | .conj => (88, #[.pointer (some ⟨pb, 0, none⟩), .int .i64 1])
 | .neg => (171, #[.pointer (some ⟨pb, 0, none⟩)])
 | .sum => (88, #[.pointer (some ⟨pb, 0, none⟩), .int .i64 3])
 | .unit => (172, #[.pointer (some ⟨pb, 0, none⟩)])
 | .scheme => (88, #[.pointer (some ⟨pb, 0, none⟩), .int .i64 4])
 | .term => (88, #[.pointer (some ⟨pb, 0, none⟩), .int .i64 5])
 | .factor => (173, #[.pointer (some ⟨pb, 0, none⟩)])
 | .atom => (195, #[.pointer (some ⟨pb, 0, none⟩)])
 | .formula => (47, #[.pointer (some ⟨pb, 0, none⟩)])
 | .disj => (88, #[.pointer (some ⟨pb, 0, none⟩), .int .i64 6])
 | .meet => (88, #[.pointer (some ⟨pb, 0, none⟩), .int .i64 7])
 | .lit => (174, #[.pointer (some ⟨pb, 0, none⟩)])
theorem Qcl (pb tb c : Nat) (T : List Tok) (f : Nat) : (∀ nt, nt ≠ .atom → RdM pb tb c T (mFn pb nt).1 (mFn pb nt).2 (mrd Q0 T f nt)) ∧
  (∀ W s o, PR pb tb c T s W → s.lv ≤ 128 → mrd Q0 T f .atom s = some o → Calls Tryz.prog 195 #[.pointer (some ⟨pb, 0, none⟩)] W (ROut pb tb c T W o.1 o.2)) := by
 induction f with
 | zero => exact ⟨fun nt _ => RdM.of (Q8a 0 nt) fun _ _ _ _ _ h => (by cases h), fun _ _ _ _ _ h => by cases h⟩
 | succ f ih =>
  have hcond := Qhz pb tb c T _ (ih.1 .cond (by decide))
  have hsch := Qg1 pb tb c T _ (ih.1 .scheme (by decide))
  have hfor := ih.1 .formula (by decide)
  refine ⟨fun nt hnt => RdM.of (Q8a (f + 1) nt) fun W s o h hlv hm => ?_, fun W s o h hl hm => Qjc pb tb c f T s W o h hl hcond hsch hm⟩
  cases nt with
  | cond => exact Q5e 0 [kOr] (by simp [Q45]) pb tb c T s W _ o h hlv (Qqs pb tb c T _ (ih.1 .conj (by decide))) hm
  | conj => exact Q5e 1 [kAnd] (by simp [Q45]) pb tb c T s W _ o h hlv (Qt4 pb tb c T _ (ih.1 .neg (by decide))) hm
  | neg => exact Qou pb tb c f T s W o h hlv (ih.1 .neg (by decide)) hcond (ih.1 .sum (by decide)) hm
  | sum => exact Q5e 3 [[43], [45]] (by simp [Q45]) pb tb c T s W _ o h hlv (Qth pb tb c T _ (ih.1 .unit (by decide))) hm
  | unit => exact Qka pb tb c f T s W o h hlv hcond (ih.1 .sum (by decide)) hm
  | scheme => exact Q5e 4 [kOr] (by simp [Q45]) pb tb c T s W _ o h hlv (Qk9 pb tb c T _ (ih.1 .term (by decide))) hm
  | term => exact Q5e 5 [kAnd] (by simp [Q45]) pb tb c T s W _ o h hlv (Qst pb tb c T _ (ih.1 .factor (by decide))) hm
  | factor => exact Qku pb tb c f T s W o h hlv ih.2 (ih.1 .factor (by decide)) hm
  | atom => exact absurd rfl hnt
  | formula => exact Qot pb tb c f T s W o h hlv (ih.1 .disj (by decide)) hfor hm
  | disj => exact Q5e 6 [kOr] (by simp [Q45]) pb tb c T s W _ o h hlv (Qim pb tb c T _ (ih.1 .meet (by decide))) hm
  | meet => exact Q5e 7 [kAnd] (by simp [Q45]) pb tb c T s W _ o h hlv (Qjf pb tb c T _ (ih.1 .lit (by decide))) hm
  | lit => exact Qnj pb tb c f T s W o h hlv (ih.1 .lit (by decide)) hfor (Qq2 pb tb c T _ hfor) hm
theorem Qj0 (pb tb c : Nat) (T : List Tok) (f : Nat) : RdM pb tb c T 45 #[.pointer (some ⟨pb, 0, none⟩)] (mrd Q0 T f .cond) := Qhz pb tb c T _ ((Qcl pb tb c T f).1 .cond (by decide))
theorem Qm6 (pb tb c : Nat) (T : List Tok) (f : Nat) : RdM pb tb c T 46 #[.pointer (some ⟨pb, 0, none⟩)] (mrd Q0 T f .scheme) := Qg1 pb tb c T _ ((Qcl pb tb c T f).1 .scheme (by decide))
theorem Qja (pb tb c : Nat) (T : List Tok) (f : Nat) : RdM pb tb c T 47 #[.pointer (some ⟨pb, 0, none⟩)] (mrd Q0 T f .formula) := (Qcl pb tb c T f).1 .formula (by decide)
end
end Go.Proofs.YtplbfmcgddnkeaaGreatDoor
