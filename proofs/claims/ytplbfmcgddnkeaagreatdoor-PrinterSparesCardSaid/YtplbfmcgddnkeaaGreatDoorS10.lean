/- Joined: Pq, Bx, Vam, Caa. -/
import Derived.Test.YtplbfmcgddnkeaaGreatDoorS08
import Derived.Test.YtplbfmcgddnkeaaGreatDoorS06
import Derived.Test.YtplbfmcgddnkeaaGreatDoorS07
set_option linter.unusedVariables false
set_option linter.unusedSimpArgs false
section
set_option maxHeartbeats 4000000
set_option maxRecDepth 100000
namespace Go.Proofs.YtplbfmcgddnkeaaGreatDoor
open Go.RowKit
theorem nnum_any (k : Nat) (tx : List UInt8) (n a : Int) (q : Option Addr) (m d : Nat) (w0 w : World) (B b : Nat) (l : List UInt8) (hst : WSt w0 w B b l w) (ht : TabW w0) (hn : natB n = true) (hlen : l.length + (dec n.toNat).length ≤ 140737488355328) :
    Calls Tryz.prog 57 #[.pointer (some ⟨b, 0, none⟩), .int .i64 k, (Value.agg #[.int .i64 9, .string ⟨List.toArray tx⟩, .int .i64 n, .int .i64 a, .slice q m d])] w (WPost w0 w B b (l ++ dec n.toNat)) := by
  have hFr := boxed3_fr (wr_lt hst.wr).2 k 9 tx n a q m d
  have hst1 := hst.step (boxed3_below w b k 9 tx n a q m d)
  have hB1 : B ≤ (boxed3 w b k 9 tx n a q m d).heap.size := Nat.le_trans hst.ge (boxed3_below w b k 9 tx n a q m d).size
  unfold boxed3 boxed at hFr hst1 hB1
  go_enter Tryz.func57, Tryz.ntmps57
  go_upto_region 3 with (fail)
  generalize World.alloc (World.alloc (World.alloc w _) _) _ = w1 at hFr hst1 hB1 ⊢
  generalize w.heap.size = s at hFr ⊢
  have hR := WRel.refl B b w1
  have g0 := hFr.w hR
  have g1 := hFr.kd hR
  have c0 := hFr.t0 hR
  have c1 := hFr.t1 hR
  have c2 := hFr.t2 hR
  have c3 := hFr.t3 hR
  have c4 := hFr.t4 hR
  have hst2 := Lib.hid (hst1.fresh)
  replace hst1 := Lib.hid hst1
  have hA := fun W (h : Below w1.heap.size w1 W) => (hst2.out.step h).add [dec n.toNat] (by simp) (by simpa using hlen)
  simp only [List.flatten_cons, List.flatten_nil, List.append_nil, List.map_cons, List.map_nil, List.length_cons, List.length_nil] at hA
  replace hA := Lib.hid hA
  have hI := Lib.hid (itoa_rel (b := b) hn ht hst1.out.tree hB1)
  have fw := fun W (h : WRel B b w1 W) => hFr.w h
  have fk := fun W (h : WRel B b w1 W) => hFr.kd h
  have f0 := fun W (h : WRel B b w1 W) => hFr.t0 h
  have f1 := fun W (h : WRel B b w1 W) => hFr.t1 h
  have f2 := fun W (h : WRel B b w1 W) => hFr.t2 h
  have f4 := fun W (h : WRel B b w1 W) => hFr.t4 h
  clear g0 g1 c0 c1 c2 c3 c4
  have hdr := wrel_drew hR
  have hdb : Below w1.heap.size w1 w1.drew := (Below.refl _ _).drew
  go_region_held2 (fun W => WRel B b w1 W) (with_reducible first | assumption | exact wrel_alloc (by assumption) hB1 _) (first | (go_at_call 54; (with_reducible refine (hI.out _ (by assumption) (by assumption)).mono ?_); rintro e x5 ⟨rfl, r5, b5⟩) | (go_at_call 53; (with_reducible refine (hA.out _ (by assumption)).mono ?_); rintro e x6 ⟨rfl, hst3⟩; have r6 := hst3.rel))
  all_goals
    go_wp2_with fail
    go_end0
    exact ⟨rfl, hst1.out.call hst3⟩
end Go.Proofs.YtplbfmcgddnkeaaGreatDoor
end
section
set_option maxHeartbeats 2000000
set_option maxRecDepth 100000
namespace Go.Proofs.YtplbfmcgddnkeaaGreatDoor
open Go.RowKit
def WrText (B b : Nat) (l : List UInt8) (w : World) : Prop := ∃ (p : Value) (g cap : Nat) (cur : Array Value) (fr : Nat × Nat), B ≤ b ∧ B ≤ g ∧ b ≠ g ∧ w.heap[b]? = some (.cells #[p, .slice (some ⟨g, 0, none⟩) l.length cap] 77 (0, 0)) ∧ w.heap[g]? = some (.cells cur 5 fr) ∧
  l.length ≤ cap ∧ cap ≤ maxLen ∧ cur.size = cap ∧ ∀ (j : Nat) (x : UInt8), l[j]? = some x → cur[j]? = some (Value.int .u8 x.toNat)
theorem wrtext_of {B b : Nat} {l : List UInt8} {w : World} (h : IsWr B b l w) (h0 : l ≠ []) : WrText B b l w := by
  obtain ⟨p, hB, v, hbk, hown, hne⟩ : ∃ p, Lib.BuilderAt 77 5 B b p (Lib.byteCells l) w := by
    rcases h with h | h
    · exact ⟨_, h⟩
    · exact ⟨_, h⟩
  have hl0 : l.length ≠ 0 := by simpa using h0
  rw [Lib.byteCells_length] at hown
  obtain ⟨g, cap, cur, rfl, hbg, hg, hnc, hcm, hcs, htake⟩ : ∃ g cap cur, v = .slice (some ⟨g, 0, none⟩) l.length cap ∧ B ≤ g ∧ w.heap[g]? = some (.cells cur 5 (0, 0)) ∧ l.length ≤ cap ∧ cap ≤ maxLen ∧ cur.size = cap * 1 ∧ cur.toList.take (l.length * 1) = Lib.byteCells l := by
    rcases hown.2 with ⟨_, hz⟩ | ⟨g, cap, cur, hv, r⟩
    · exact absurd hz hl0
    · exact ⟨g, cap, cur, hv, r⟩
  refine ⟨p, g, cap, cur, (0, 0), hB, hbg, fun e => by subst e; rw [hbk] at hg; simp only [Option.some.injEq, Obj.cells.injEq] at hg; exact absurd hg.2.1 (by decide), hbk, hg, hnc, hcm, by omega, fun j x hx => ?_⟩
  have h1 := hown.cells (g := g) rfl j (.int .u8 x.toNat) (by simp [Lib.byteCells, hx])
  have h2 : ((⟨g, 0, none⟩ : Addr).add j) = ⟨g, j, none⟩ := by simp [Addr.add]; exact fun h => h.symm
  rw [h2, World.cell?, hg] at h1
  simpa using h1
theorem WrText.low {B b : Nat} {l : List UInt8} {w w' : World} (h : WrText B b l w) (hb : Below w.heap.size w w') : WrText B b l w' := by
  obtain ⟨p, g, cap, cur, fr, h1, h2, h3, h4, h5, h6⟩ := h
  exact ⟨p, g, cap, cur, fr, h1, h2, h3, (hb.block b (Array.getElem?_eq_some_iff.1 h4).1).trans h4, (hb.block g (Array.getElem?_eq_some_iff.1 h5).1).trans h5, h6⟩
theorem wr_len (B b : Nat) (l : List UInt8) (w : World) (h : WrText B b l w) : Calls Tryz.prog 58 #[.pointer (some ⟨b, 0, none⟩)] w fun e w' => e = .returned (.int .i64 l.length) ∧ w' = w := by
  obtain ⟨p, g, cap, cur, fr, h1, h2, h3, h4, h5, h6⟩ := h
  have c1 : w.cell? ⟨b, 1, none⟩ = some (.slice (some ⟨g, 0, none⟩) l.length cap) := by rw [Lib.cell_of_heap h4]; rfl
  clear h4 h5 h6
  go_enter Tryz.func58, Tryz.ntmps58
  go_wp2
  go_ret
  exact ⟨rfl, rfl⟩
theorem wrtext_freeze {B b g n : Nat} {l : List UInt8} {w : World} (h : ∃ (p : Value) (cap : Nat) (cur : Array Value) (fr : Nat × Nat), B ≤ b ∧ B ≤ g ∧ b ≠ g ∧ w.heap[b]? = some (.cells #[p, .slice (some ⟨g, 0, none⟩) l.length cap] 77 (0, 0)) ∧ w.heap[g]? = some (.cells cur 5 fr) ∧
  l.length ≤ cap ∧ cap ≤ maxLen ∧ cur.size = cap ∧ ∀ (j : Nat) (x : UInt8), l[j]? = some x → cur[j]? = some (Value.int .u8 x.toNat)) : WrText B b l (w.freeze ⟨g, 0, none⟩ n) := by
  obtain ⟨p, cap, cur, ⟨lo, hi⟩, h1, h2, h3, h4, h5, h6⟩ := h
  unfold World.freeze
  split
  · exact ⟨p, g, cap, cur, (lo, hi), h1, h2, h3, h4, h5, h6⟩
  · refine ⟨p, g, cap, cur, (if lo == hi then ((0 : Nat), 0 + n) else (min lo 0, max hi (0 + n))), h1, h2, h3, ?_, ?_, h6⟩
    · simp only [Array.getElem?_modify]
      rw [if_neg (fun e => h3 e.symm)]
      exact h4
    · simp only [Array.getElem?_modify, if_true, h5, Option.map_some]
theorem wr_string (B b : Nat) (l : List UInt8) (w : World) (h : WrText B b l w) (h0 : l ≠ []) : Calls Tryz.prog 59 #[.pointer (some ⟨b, 0, none⟩)] w fun e w' => e = .returned (.string ⟨l.toArray⟩) ∧ WrText B b l w' ∧ Below B w w' := by
  obtain ⟨p, g, cap, cur, fr, h1, h2, h3, h4, h5, h6, h7, h8, h9⟩ := h
  have hl0 : l.length ≠ 0 := by simpa using h0
  have hbk : w.drew.heap[b]? = some (.cells #[p, .slice (some ⟨g, 0, none⟩) l.length cap] 77 (0, 0)) := h4
  have hg : w.drew.heap[g]? = some (.cells cur 5 fr) := h5
  have c1 : w.drew.cell? ⟨b, 1, none⟩ = some (.slice (some ⟨g, 0, none⟩) l.length cap) := by rw [Lib.cell_of_heap hbk]; rfl
  have hSD : (Builtin.unsafeSliceData_ #[73] 125 #[.slice (some ⟨g, 0, none⟩) l.length cap]).run Tryz.prog w.drew = .ok (.pointer (some ⟨g, 0, none⟩)) w.drew :=
    Lib.run_unsafeSliceData_row _ _ _ _ _ _ (by omega)
  have hUS : (Builtin.unsafeString_ #[125, 3] 9 #[.pointer (some ⟨g, 0, none⟩), .int .i64 l.length]).run Tryz.prog w.drew = .ok (.string ⟨l.toArray⟩) (w.drew.freeze ⟨g, 0, none⟩ l.length) := by
    refine Lib.run_unsafeString_row w.drew 125 3 9 5 Tryz.underlying125 (by kernel_rfl) g cur.size (by simp [World.shape?, hg]) l h0 (by omega) (by unfold maxLen at h7; omega) ?_
    intro j x hx
    have h2 : ((⟨g, 0, none⟩ : Addr).add j) = ⟨g, j, none⟩ := by simp [Addr.add]; exact fun h => h.symm
    rw [h2, World.cell?, hg]
    simpa using h9 j x hx
  have fin : WrText B b l (w.drew.freeze ⟨g, 0, none⟩ l.length) := wrtext_freeze ⟨p, cap, cur, fr, h1, h2, h3, hbk, hg, h6, h7, h8, h9⟩
  have fb : Below B w (w.drew.freeze ⟨g, 0, none⟩ l.length) := Lib.below_freeze (Below.drew (Below.refl B w)) (p := ⟨g, 0, none⟩) h2 _
  replace fin := Lib.hid fin
  replace fb := Lib.hid fb
  clear h4 h5 hbk hg h9
  go_enter Tryz.func59, Tryz.ntmps59
  go_wp2
  go_region
  all_goals (go_wp2; go_ret; exact ⟨rfl, fin.out, fb.out⟩)
end Go.Proofs.YtplbfmcgddnkeaaGreatDoor
end
section
set_option maxHeartbeats 1000000
set_option maxRecDepth 100000
namespace Go.Proofs.YtplbfmcgddnkeaaGreatDoor
open Go.RowKit
attribute [local go_sem ↓] look_open sto_open
theorem vnot_any (k : Nat) (hk : k ≤ 2) (tx : List UInt8) (n a : Int) (ks : List Syn) (q : Option Addr) (d : Nat) (w : World) (hl : ks.length ≤ 100000)
    (hks : KidR w ks (.slice q ks.length d))
    (hV : ∀ i (hi : i < ks.length) q d W, Below w.heap.size w W → KidR W ks[i].kids (.slice q ks[i].kids.length d) → Calls Tryz.prog 56 #[.int .i64 k, nodeV ks[i] q d] W (VPost W (okP k ks[i]))) :
    Calls Tryz.prog 56 #[.int .i64 k, nodeV (.mk 12 tx n a ks) q d] w (VPost w (okP k (.mk 12 tx n a ks))) := by
  rw [okP_not hk rfl]
  show Calls Tryz.prog 56 #[.int .i64 k, (Value.agg #[.int .i64 12, .string ⟨List.toArray tx⟩, .int .i64 n, .int .i64 a, .slice q ks.length d])] w (VPost w (decide (k ≠ 1) && ((tx == []) && decide (n = 0)) && decide (ks.length = 1) && okP k (kid0 (.mk 12 tx n a ks))))
  obtain ⟨res, hres⟩ : ∃ r, Hid (r = (decide (k ≠ 1) && ((tx == []) && decide (n = 0)) && decide (ks.length = 1) && okP k (kid0 (.mk 12 tx n a ks)))) := ⟨_, Lib.hid rfl⟩
  rw [← hres.out]
  have hA := fun W => pbare_any 12 tx n a q ks.length d W
  generalize hbr : ((tx == []) && decide (n = 0)) = br at hA
  rw [hbr] at hres
  have ek : ((k : Int) = 1) = (k = 1) := by rw [eq_iff_iff]; omega
  have e2 : ((ks.length : Int) = 1) = (ks.length = 1) := by rw [eq_iff_iff]; omega
  replace hA := Lib.hid hA
  replace ek := Lib.hid ek
  replace e2 := Lib.hid e2
  by_cases hL : ks.length = 1
  · obtain ⟨x, rfl⟩ := List.length_eq_one_iff.1 hL
    obtain ⟨b, o, q', d', rfl, hc, hkk⟩ := kid_at0 hks (by simp)
    have hV0 := hV 0 (by simp)
    simp only [List.getElem_cons_zero] at hc hkk hV0
    have hS := fun K W (hX : W.cell? ⟨K, 0, none⟩ = some (.int .i64 k)) (hbW : Below w.heap.size w W) => same_valid k x.kind x.text x.num x.pos q' x.kids.length d' K (okP k x) W hX (fun W' hb' => hV0 q' d' W' (hbW.trans (hb'.mono hbW.size)) (hkk.low (hbW.trans (hb'.mono hbW.size))))
    replace hS := Lib.hid hS
    replace hc := Lib.hid (fun W (h : Below w.heap.size w W) => (⟨cell_low hc.1 h, cell_low hc.2.1 h, cell_low hc.2.2.1 h, cell_low hc.2.2.2.1 h, cell_low hc.2.2.2.2 h⟩ : KidC W b o x q' d'))
    clear hV hV0 hks hkk hbr
    simp only [List.length_singleton] at *
    have hB := boxed2_below w k 12 tx n a (some ⟨b, o, none⟩) 1 d
    have hX := boxed2_kind w k 12 tx n a (some ⟨b, o, none⟩) 1 d
    have hC := boxed2_five w k 12 tx n a (some ⟨b, o, none⟩) 1 d
    unfold boxed2 boxed at hB hX hC
    go_enter Tryz.func56, Tryz.ntmps56
    go_upto_region 9 with (fail)
    generalize World.alloc (World.alloc w _) _ = w1 at hB hX hC ⊢
    generalize w.heap.size + 1 = B at hC ⊢
    obtain ⟨c0, c1, c2, c3, c4⟩ := hC
    replace hB := Lib.hid hB
    go_wp2_with (first | (go_at_call 103; (with_reducible refine (hA.out _).mono ?_); rintro e x2 ⟨rfl, b2⟩; have f4 := cell_low c4 b2; have fX := cell_low hX b2; have hB2 := Lib.hid (hB.out.trans (b2.mono hB.out.size)); obtain ⟨d0, d1, d2, d3, d4⟩ := hc.out x2 hB2.out) | (go_at_call 101; (with_reducible refine (hS.out _ _ fX hB2.out).mono ?_); rintro e x3 ⟨rfl, b3⟩))
    all_goals
      go_ret
      refine ⟨ret_b ?_, by first | exact hB.out | exact hB2.out | exact hB2.out.trans (b3.mono hB2.out.size)⟩
      rw [hres.out]
      have ek' := ek.out
      simp_all [beqI, kid0, Syn.kids]
  · replace hL := show ¬ (ks.length : Int) = 1 by omega
    clear hV hks hbr
    generalize ks.length = m at *
    have hB := boxed2_below w k 12 tx n a q m d
    have hX := boxed2_kind w k 12 tx n a q m d
    have hC := boxed2_five w k 12 tx n a q m d
    unfold boxed2 boxed at hB hX hC
    go_enter Tryz.func56, Tryz.ntmps56
    go_upto_region 9 with (fail)
    generalize World.alloc (World.alloc w _) _ = w1 at hB hX hC ⊢
    generalize w.heap.size + 1 = B at hC ⊢
    obtain ⟨c0, c1, c2, c3, c4⟩ := hC
    replace hB := Lib.hid hB
    go_wp2_with (first | (go_at_call 103; (with_reducible refine (hA.out _).mono ?_); rintro e x2 ⟨rfl, b2⟩; have f4 := cell_low c4 b2; have hB2 := Lib.hid (hB.out.trans (b2.mono hB.out.size))))
    all_goals
      go_ret
      refine ⟨ret_b ?_, by first | exact hB.out | exact hB2.out⟩
      rw [hres.out]
      have ek' := ek.out
      have e2' := e2.out
      simp_all [beqI]
theorem vname_any (k : Nat) (hk : k ≤ 2) (tx : List UInt8) (n a : Int) (ks : List Syn) (q : Option Addr) (d : Nat) (w : World) (ht : tx.length ≤ 1000000) (hg : SignsAt w) (hsp : SpaceAt w) :
    Calls Tryz.prog 56 #[.int .i64 k, nodeV (.mk 8 tx n a ks) q d] w (VPost w (okP k (.mk 8 tx n a ks))) := by
  rw [okP_name hk rfl]
  show Calls Tryz.prog 56 #[.int .i64 k, (Value.agg #[.int .i64 8, .string ⟨List.toArray tx⟩, .int .i64 n, .int .i64 a, .slice q ks.length d])] w (VPost w (decide (k ≠ 2) && isNm (.mk 8 tx n a ks)))
  have hA := fun W (h : Below w.heap.size w W) => prname_any 8 tx n a q ks d W ht (signs_low hg h) (hsp.below h)
  generalize isNm (.mk 8 tx n a ks) = br at hA ⊢
  obtain ⟨res, hres⟩ : ∃ r, Hid (r = (decide (k ≠ 2) && br)) := ⟨_, Lib.hid rfl⟩
  rw [← hres.out]
  have ek : ((k : Int) = 2) = (k = 2) := by rw [eq_iff_iff]; omega
  replace hA := Lib.hid hA
  replace ek := Lib.hid ek
  clear ht hg hsp
  generalize ks.length = m at *
  have hB := boxed2_below w k 8 tx n a q m d
  have hX := boxed2_kind w k 8 tx n a q m d
  have hC := boxed2_five w k 8 tx n a q m d
  unfold boxed2 boxed at hB hX hC
  go_enter Tryz.func56, Tryz.ntmps56
  go_upto_region 14 with (fail)
  generalize World.alloc (World.alloc w _) _ = w1 at hB hX hC ⊢
  generalize w.heap.size + 1 = B at hC ⊢
  obtain ⟨c0, c1, c2, c3, c4⟩ := hC
  replace hB := Lib.hid hB
  go_wp2_with (first | (go_at_call 98; (with_reducible refine (hA.out _ hB.out).mono ?_); rintro e x2 ⟨rfl, b2⟩; have hB2 := Lib.hid (hB.out.trans (b2.mono hB.out.size))))
  all_goals
    go_ret
    refine ⟨ret_b ?_, by first | exact hB.out | exact hB2.out⟩
    rw [hres.out]
    have ek' := ek.out
    simp_all [beqI]
theorem vnum_any (k : Nat) (hk : k ≤ 2) (tx : List UInt8) (n a : Int) (ks : List Syn) (q : Option Addr) (d : Nat) (w : World) :
    Calls Tryz.prog 56 #[.int .i64 k, nodeV (.mk 9 tx n a ks) q d] w (VPost w (okP k (.mk 9 tx n a ks))) := by
  rw [okP_num hk rfl]
  show Calls Tryz.prog 56 #[.int .i64 k, (Value.agg #[.int .i64 9, .string ⟨List.toArray tx⟩, .int .i64 n, .int .i64 a, .slice q ks.length d])] w (VPost w (decide (k = 0) && isNum (.mk 9 tx n a ks)))
  have hA := fun W => pnum_any 9 tx n a q ks d W
  generalize isNum (.mk 9 tx n a ks) = br at hA ⊢
  obtain ⟨res, hres⟩ : ∃ r, Hid (r = (decide (k = 0) && br)) := ⟨_, Lib.hid rfl⟩
  rw [← hres.out]
  have ek : ((k : Int) = 0) = (k = 0) := by rw [eq_iff_iff]; omega
  replace hA := Lib.hid hA
  replace ek := Lib.hid ek
  generalize ks.length = m at *
  have hB := boxed2_below w k 9 tx n a q m d
  have hX := boxed2_kind w k 9 tx n a q m d
  have hC := boxed2_five w k 9 tx n a q m d
  unfold boxed2 boxed at hB hX hC
  go_enter Tryz.func56, Tryz.ntmps56
  go_upto_region 16 with (fail)
  generalize World.alloc (World.alloc w _) _ = w1 at hB hX hC ⊢
  generalize w.heap.size + 1 = B at hC ⊢
  obtain ⟨c0, c1, c2, c3, c4⟩ := hC
  replace hB := Lib.hid hB
  go_wp2_with (first | (go_at_call 104; (with_reducible refine (hA.out _).mono ?_); rintro e x2 ⟨rfl, b2⟩; have hB2 := Lib.hid (hB.out.trans (b2.mono hB.out.size))))
  all_goals
    go_ret
    refine ⟨ret_b ?_, by first | exact hB.out | exact hB2.out⟩
    rw [hres.out]
    have ek' := ek.out
    simp_all [beqI]
theorem vcall_any (k : Nat) (hk : k ≤ 2) (tx : List UInt8) (n a : Int) (ks : List Syn) (q : Option Addr) (d : Nat) (w : World)
    (hC : ∀ W, Below w.heap.size w W → Calls Tryz.prog 105 #[.int .i64 k, (Value.agg #[.int .i64 10, .string ⟨List.toArray tx⟩, .int .i64 n, .int .i64 a, .slice q ks.length d])] W (VPost W (callP k (.mk 10 tx n a ks)))) :
    Calls Tryz.prog 56 #[.int .i64 k, nodeV (.mk 10 tx n a ks) q d] w (VPost w (okP k (.mk 10 tx n a ks))) := by
  rw [okP_call hk rfl]
  show Calls Tryz.prog 56 #[.int .i64 k, (Value.agg #[.int .i64 10, .string ⟨List.toArray tx⟩, .int .i64 n, .int .i64 a, .slice q ks.length d])] w (VPost w (decide (n = 0) && callP k (.mk 10 tx n a ks)))
  generalize callP k (.mk 10 tx n a ks) = br at hC ⊢
  obtain ⟨res, hres⟩ : ∃ r, Hid (r = (decide (n = 0) && br)) := ⟨_, Lib.hid rfl⟩
  rw [← hres.out]
  replace hC := Lib.hid hC
  generalize ks.length = m at *
  have hB := boxed2_below w k 10 tx n a q m d
  have hX := boxed2_kind w k 10 tx n a q m d
  have hC := boxed2_five w k 10 tx n a q m d
  unfold boxed2 boxed at hB hX hC
  go_enter Tryz.func56, Tryz.ntmps56
  go_upto_region 18 with (fail)
  generalize World.alloc (World.alloc w _) _ = w1 at hB hX hC ⊢
  generalize w.heap.size + 1 = B at hC ⊢
  obtain ⟨c0, c1, c2, c3, c4⟩ := hC
  replace hB := Lib.hid hB
  by_cases hn : n = 0
  · subst hn
    go_wp2_with (first | (go_at_call 105; (with_reducible refine (hC.out _ hB.out).mono ?_); rintro e x2 ⟨rfl, b2⟩; have hB2 := Lib.hid (hB.out.trans (b2.mono hB.out.size))))
    all_goals
      go_ret
      refine ⟨ret_b ?_, by first | exact hB.out | exact hB2.out⟩
      rw [hres.out]
      simp_all [beqI]
  · go_wp2_with fail
    all_goals
      go_ret
      refine ⟨ret_b ?_, hB.out⟩
      rw [hres.out]
      simp_all [beqI]
theorem vother_any (k : Nat) (kd : Int) (tx : List UInt8) (n a : Int) (ks : List Syn) (q : Option Addr) (d : Nat) (w : World) (h8 : kd ≠ 8) (h9 : kd ≠ 9) (h10 : kd ≠ 10) (h11 : kd ≠ 11) (h12 : kd ≠ 12) (h13 : kd ≠ 13) :
    Calls Tryz.prog 56 #[.int .i64 k, nodeV (.mk kd tx n a ks) q d] w (VPost w (okP k (.mk kd tx n a ks))) := by
  rw [okP_other (t := .mk kd tx n a ks) h8 h9 h10 h11 h12 h13]
  show Calls Tryz.prog 56 #[.int .i64 k, (Value.agg #[.int .i64 kd, .string ⟨List.toArray tx⟩, .int .i64 n, .int .i64 a, .slice q ks.length d])] w (VPost w false)
  generalize ks.length = m at *
  have hB := boxed2_below w k kd tx n a q m d
  have hX := boxed2_kind w k kd tx n a q m d
  have hC := boxed2_five w k kd tx n a q m d
  unfold boxed2 boxed at hB hX hC
  go_enter Tryz.func56, Tryz.ntmps56
  go_upto_region 3 with (fail)
  generalize World.alloc (World.alloc w _) _ = w1 at hB hX hC ⊢
  generalize w.heap.size + 1 = B at hC ⊢
  obtain ⟨c0, c1, c2, c3, c4⟩ := hC
  replace hB := Lib.hid hB
  go_wp2_with fail
  all_goals
    go_ret
    exact ⟨rfl, hB.out⟩
theorem vquant_any (k : Nat) (hk : k ≤ 2) (tx : List UInt8) (n a : Int) (ks : List Syn) (q : Option Addr) (d : Nat) (w : World) (hl : ks.length ≤ 100000) (hM : ∀ z ∈ ks, z.text.length ≤ 1000000) (hg : SignsAt w) (hsp : SpaceAt w)
    (hks : KidR w ks (.slice q ks.length d))
    (hV : ∀ i (hi : i < ks.length) q d W, Below w.heap.size w W → KidR W ks[i].kids (.slice q ks[i].kids.length d) → Calls Tryz.prog 56 #[.int .i64 k, nodeV ks[i] q d] W (VPost W (okP k ks[i]))) :
    Calls Tryz.prog 56 #[.int .i64 k, nodeV (.mk 13 tx n a ks) q d] w (VPost w (okP k (.mk 13 tx n a ks))) := by
  rw [okP_quant hk rfl]
  show Calls Tryz.prog 56 #[.int .i64 k, (Value.agg #[.int .i64 13, .string ⟨List.toArray tx⟩, .int .i64 n, .int .i64 a, .slice q ks.length d])] w (VPost w (decide (k = 0) && (tx == kAll || tx == kSome || tx == kCount) && decide (n = 0) && decide (ks.length = 2) && isNm (kid0 (.mk 13 tx n a ks)) && okP k (kid1 (.mk 13 tx n a ks))))
  obtain ⟨res, hres⟩ : ∃ r, Hid (r = (decide (k = 0) && (tx == kAll || tx == kSome || tx == kCount) && decide (n = 0) && decide (ks.length = 2) && isNm (kid0 (.mk 13 tx n a ks)) && okP k (kid1 (.mk 13 tx n a ks)))) := ⟨_, Lib.hid rfl⟩
  rw [← hres.out]
  have ek : ((k : Int) = 0) = (k = 0) := by rw [eq_iff_iff]; omega
  have e2 : ((ks.length : Int) = 2) = (ks.length = 2) := by rw [eq_iff_iff]; omega
  replace ek := Lib.hid ek
  replace e2 := Lib.hid e2
  by_cases hL : ks.length = 2
  · obtain ⟨x, y, rfl⟩ : ∃ x y, ks = [x, y] := by
      match ks, hL with
      | [x, y], _ => exact ⟨x, y, rfl⟩
    obtain ⟨b, o, q', d', rfl, hc, hkk⟩ := kid_at0 hks (by simp)
    obtain ⟨q2, d2, hc2, hkk2⟩ := kid_at1 hks (by simp)
    have hV0 := hV 1 (by simp)
    simp only [List.getElem_cons_zero, List.getElem_cons_succ] at hc hkk hV0 hc2 hkk2
    have hS := fun K W (hX : W.cell? ⟨K, 0, none⟩ = some (.int .i64 k)) (hbW : Below w.heap.size w W) => same_valid k y.kind y.text y.num y.pos q2 y.kids.length d2 K (okP k y) W hX (fun W' hb' => hV0 q2 d2 W' (hbW.trans (hb'.mono hbW.size)) (hkk2.low (hbW.trans (hb'.mono hbW.size))))
    have hA : ∀ W (h : Below w.heap.size w W), Calls Tryz.prog 98 #[nodeV x q' d'] W (VPost W (isNm x)) := fun W h => by
      have hT := hM x (by simp)
      obtain ⟨xk, xt, xn, xa, xs⟩ := x
      exact prname_any xk xt xn xa q' xs d' W hT (signs_low hg h) (hsp.below h)
    replace hA := Lib.hid hA
    replace hS := Lib.hid hS
    replace hc := Lib.hid (fun W (h : Below w.heap.size w W) => kidC_low hc h)
    replace hc2 := Lib.hid (fun W (h : Below w.heap.size w W) => kidC_low hc2 h)
    clear hV hV0 hks hkk hkk2 hM hg hsp
    have hlen : ([x, y] : List Syn).length = 2 := rfl
    rw [hlen] at *
    have hB := boxed2_below w k 13 tx n a (some ⟨b, o, none⟩) 2 d
    have hX := boxed2_kind w k 13 tx n a (some ⟨b, o, none⟩) 2 d
    have hC := boxed2_five w k 13 tx n a (some ⟨b, o, none⟩) 2 d
    unfold boxed2 boxed at hB hX hC
    go_enter Tryz.func56, Tryz.ntmps56
    go_upto_region 11 with (fail)
    generalize World.alloc (World.alloc w _) _ = w1 at hB hX hC ⊢
    generalize w.heap.size + 1 = B at hC ⊢
    obtain ⟨c0, c1, c2, c3, c4⟩ := hC
    replace hB := Lib.hid hB
    obtain ⟨d0, d1, d2', d3, d4⟩ := hc.out w1 hB.out
    go_wp2_with (first | (go_at_call 98; (with_reducible refine (hA.out _ hB.out).mono ?_); rintro e x2 ⟨rfl, b2⟩; have f4 := cell_low c4 b2; have fX := cell_low hX b2; have hB2 := Lib.hid (hB.out.trans (b2.mono hB.out.size)); obtain ⟨g0, g1, g2, g3, g4⟩ := hc2.out x2 hB2.out) | (go_at_call 101; (with_reducible refine (hS.out _ _ fX hB2.out).mono ?_); rintro e x3 ⟨rfl, b3⟩))
    all_goals
      go_ret
      refine ⟨ret_b ?_, by first | exact hB.out | exact hB2.out | exact hB2.out.trans (b3.mono hB2.out.size)⟩
      rw [hres.out]
      have ek' := ek.out
      simp_all [beqI, kid0, kid1, Syn.kids]
  · replace hL := show ¬ (ks.length : Int) = 2 by omega
    clear hV hks hM
    generalize ks.length = m at *
    have hB := boxed2_below w k 13 tx n a q m d
    have hX := boxed2_kind w k 13 tx n a q m d
    have hC := boxed2_five w k 13 tx n a q m d
    unfold boxed2 boxed at hB hX hC
    go_enter Tryz.func56, Tryz.ntmps56
    go_upto_region 11 with (fail)
    generalize World.alloc (World.alloc w _) _ = w1 at hB hX hC ⊢
    generalize w.heap.size + 1 = B at hC ⊢
    obtain ⟨c0, c1, c2, c3, c4⟩ := hC
    replace hB := Lib.hid hB
    go_wp2_with fail
    all_goals
      go_ret
      refine ⟨ret_b ?_, hB.out⟩
      rw [hres.out]
      have ek' := ek.out
      have e2' := e2.out
      simp_all [beqI]
end Go.Proofs.YtplbfmcgddnkeaaGreatDoor
end
section
set_option maxHeartbeats 1000000
set_option maxRecDepth 100000
namespace Go.Proofs.YtplbfmcgddnkeaaGreatDoor
open Go.RowKit
theorem prset_any (k : Int) (tx : List UInt8) (n a : Int) (p : Option Addr) (ks : List Syn) (c : Nat) (w : World) (hl : ks.length ≤ 100000) (hk : KidR w ks (.slice p ks.length c)) : Calls Tryz.prog 148 #[(Value.agg #[.int .i64 k, .string ⟨List.toArray tx⟩, .int .i64 n, .int .i64 a, .slice p ks.length c])] w (VPost w (isSet (.mk k tx n a ks))) := by
  have hE := fun W (h : Below w.heap.size w W) => every_num ks p c isNum W (hk.low h) hl (fun i hi q d W' hb hkk => by
    generalize ks[i] = x at *
    obtain ⟨xk, xt, xn, xa, xs⟩ := x
    exact pnum_any xk xt xn xa q xs d W')
  have hr : isSet (.mk k tx n a ks) = (decide (k = 14) && decide (n = 0) && ((tx == kEvery && decide ((ks.length : Int) = 0)) || (tx == [] && ks.all isNum))) := by
    show (decide (k = 14) && decide (n = 0) && ((tx == kEvery && ks.isEmpty) || (tx == [] && ks.all isNum))) = _
    have : ks.isEmpty = decide ((ks.length : Int) = 0) := by cases ks <;> simp; omega
    rw [this]
  obtain ⟨res, hres⟩ : ∃ r, Hid (r = isSet (.mk k tx n a ks)) := ⟨_, Lib.hid rfl⟩
  rw [← hres.out]
  replace hres := Lib.hid (hres.out.trans hr)
  replace hE := Lib.hid hE
  clear hr hk
  generalize ks.all isNum = al at *
  generalize ks.length = m at *
  have hB := boxed_below w k tx n a p m c
  have hC := boxed_new w k tx n a p m c
  unfold boxed at hB hC
  go_enter Tryz.func148, Tryz.ntmps148
  go_upto_region 1 with (fail)
  generalize World.alloc w _ = w1 at hB hC ⊢
  obtain ⟨c0, c1, c2, c3, c4⟩ := five hC
  replace hB := Lib.hid hB
  replace hC := Lib.hid hC
  go_wp2_with (first | (go_at_call 51; (with_reducible refine (hE.out _ hB.out).mono ?_); rintro e x2 ⟨rfl, b2⟩))
  all_goals
    go_ret
    refine ⟨ret_b ?_, by first | exact hB.out | exact hB.out.trans (b2.mono hB.out.size)⟩
    rw [hres.out]
    simp_all [beqI]
def KidsV (w : World) (ks : List Syn) : Prop := ∀ i (hi : i < ks.length) (k : Nat), k ≤ 2 → ∀ q d W, Below w.heap.size w W → KidR W ks[i].kids (.slice q ks[i].kids.length d) → Calls Tryz.prog 56 #[.int .i64 k, nodeV ks[i] q d] W (VPost W (okP k ks[i]))
theorem pcall0_any (tx : List UInt8) (n a : Int) (ks : List Syn) (q : Option Addr) (d : Nat) (w : World) (hl : ks.length ≤ 100000) (hks : KidR w ks (.slice q ks.length d)) (hV : KidsV w ks) :
    Calls Tryz.prog 105 #[.int .i64 (0 : Nat), (Value.agg #[.int .i64 10, .string ⟨List.toArray tx⟩, .int .i64 n, .int .i64 a, .slice q ks.length d])] w (VPost w (call0 (.mk 10 tx n a ks))) := by
  obtain ⟨res, hres⟩ : ∃ r, Hid (r = call0 (.mk 10 tx n a ks)) := ⟨_, Lib.hid rfl⟩
  rw [← hres.out]
  have hE := fun K W (hX : W.cell? ⟨K, 0, none⟩ = some (.int .i64 (0 : Nat))) (h : Below w.heap.size w W) => every_call ks q d (okP 0) K W (hks.low h) hl (fun i hi q d W' hb hkk => same_call 0 _ _ _ _ q _ d K (okP 0 ks[i]) W' (cell_low hX hb) (fun W2 hb' =>
      hV i hi 0 (by omega) q d W2 (h.trans ((hb.trans (hb'.mono hb.size)).mono h.size)) (hkk.low hb')))
  have e1 : ((ks.length : Int) = 1) = (ks.length = 1) := by rw [eq_iff_iff]; omega
  have e2 : ((ks.length : Int) = 2) = (ks.length = 2) := by rw [eq_iff_iff]; omega
  replace hE := Lib.hid hE
  replace e1 := Lib.hid e1
  replace e2 := Lib.hid e2
  replace hres := Lib.hid (hres.out.trans (show _ = (((decide (ks.length = 1) && (tx == kIn || tx == kOut)) || (decide (ks.length = 2) && (tx == kHears))) && ks.all (okP 0)) from rfl))
  clear hV hks
  generalize ks.all (okP 0) = al at *
  generalize ks.length = m at *
  have hB := boxed2_below w (0 : Nat) 10 tx n a q m d
  have hX := boxed2_kind w (0 : Nat) 10 tx n a q m d
  have hC := boxed2_five w (0 : Nat) 10 tx n a q m d
  unfold boxed2 boxed at hB hX hC
  go_enter Tryz.func105, Tryz.ntmps105
  go_upto_region 2 with (fail)
  generalize World.alloc (World.alloc w _) _ = w1 at hB hX hC ⊢
  generalize w.heap.size + 1 = B at hC ⊢
  obtain ⟨c0, c1, c2, c3, c4⟩ := hC
  replace hB := Lib.hid hB
  go_wp2_with (first | (go_at_call 51; (with_reducible refine (hE.out _ _ hX hB.out).mono ?_); rintro e x2 ⟨rfl, b2⟩; have hB2 := Lib.hid (hB.out.trans (b2.mono hB.out.size))))
  all_goals
    go_ret
    refine ⟨ret_b ?_, by first | exact hB.out | exact hB2.out⟩
    rw [hres.out]
    have e1' := e1.out
    have e2' := e2.out
    simp_all [beqI]
theorem num_kid {x : Syn} (q : Option Addr) (d : Nat) (W : World) : Calls Tryz.prog 104 #[nodeV x q d] W (VPost W (isNum x)) := by
  obtain ⟨xk, xt, xn, xa, xs⟩ := x
  exact pnum_any xk xt xn xa q xs d W
theorem pcall1_any (tx : List UInt8) (n a : Int) (ks : List Syn) (q : Option Addr) (d : Nat) (w : World) (hl : ks.length ≤ 100000) (hks : KidR w ks (.slice q ks.length d)) (hV : KidsV w ks) :
    Calls Tryz.prog 105 #[.int .i64 (1 : Nat), (Value.agg #[.int .i64 10, .string ⟨List.toArray tx⟩, .int .i64 n, .int .i64 a, .slice q ks.length d])] w (VPost w (call1 (.mk 10 tx n a ks))) := by
  obtain ⟨res, hres⟩ : ∃ r, Hid (r = call1 (.mk 10 tx n a ks)) := ⟨_, Lib.hid rfl⟩
  rw [← hres.out]
  have e0 : ((ks.length : Int) = 0) = (ks.length = 0) := by rw [eq_iff_iff]; omega
  have e1 : ((ks.length : Int) = 1) = (ks.length = 1) := by rw [eq_iff_iff]; omega
  replace e0 := Lib.hid e0
  replace e1 := Lib.hid e1
  by_cases hL : ks.length = 1
  · obtain ⟨x, rfl⟩ := List.length_eq_one_iff.1 hL
    obtain ⟨b, o, q', d', rfl, hc, hkk⟩ := kid_at0 hks (by simp)
    have hV0 := hV 0 (by simp) 0 (by omega)
    simp only [List.getElem_cons_zero] at hc hkk hV0
    have hS : ∀ W (hbW : Below w.heap.size w W), Calls Tryz.prog 56 #[.int .i64 0, nodeV x q' d'] W (VPost W (okP 0 x)) := fun W hbW => hV0 q' d' W hbW (hkk.low hbW)
    have hN := fun W => num_kid (x := x) q' d' W
    have hr : call1 (.mk 10 tx n a [x]) = (if tx = kSnap then false else if tx = kGraphs then okP 0 x else if schs.contains tx then isNum x else false) := rfl
    replace hres := Lib.hid (hres.out.trans hr)
    replace hS := Lib.hid hS
    replace hN := Lib.hid hN
    replace hc := Lib.hid (fun W (h : Below w.heap.size w W) => kidC_low hc h)
    clear hV hV0 hks hkk hr
    generalize okP 0 x = r0 at *
    generalize isNum x = r1 at *
    have hlen : ([x] : List Syn).length = 1 := rfl
    rw [hlen] at *
    have hB := boxed2_below w (1 : Nat) 10 tx n a (some ⟨b, o, none⟩) 1 d
    have hX := boxed2_kind w (1 : Nat) 10 tx n a (some ⟨b, o, none⟩) 1 d
    have hC := boxed2_five w (1 : Nat) 10 tx n a (some ⟨b, o, none⟩) 1 d
    unfold boxed2 boxed at hB hX hC
    go_enter Tryz.func105, Tryz.ntmps105
    go_upto_region 2 with (fail)
    generalize World.alloc (World.alloc w _) _ = w1 at hB hX hC ⊢
    generalize w.heap.size + 1 = B at hC ⊢
    obtain ⟨c0, c1, c2, c3, c4⟩ := hC
    replace hB := Lib.hid hB
    obtain ⟨d0, d1, d2', d3, d4⟩ := hc.out w1 hB.out
    go_wp2_with (first | (go_at_call 56; (with_reducible refine (hS.out _ hB.out).mono ?_); rintro e x2 ⟨rfl, b2⟩) | (go_at_call 104; (with_reducible refine (hN.out _).mono ?_); rintro e x2 ⟨rfl, b2⟩))
    all_goals
      go_ret
      refine ⟨ret_b ?_, by first | exact hB.out | exact hB.out.trans (b2.mono hB.out.size)⟩
      rw [hres.out]
      simp_all [beqI]
  · have hr : call1 (.mk 10 tx n a ks) = (if tx = kSnap then decide (ks.length = 0) else false) := by
      show (if tx = kSnap then decide (ks.length = 0) else if tx = kGraphs then decide (ks.length = 1) && _ else if schs.contains tx then decide (ks.length = 1) && _ else false) = _
      simp [hL]
    replace hres := Lib.hid (hres.out.trans hr)
    replace hL := show ¬ (ks.length : Int) = 1 by omega
    clear hV hks hr
    generalize ks.length = m at *
    have hB := boxed2_below w (1 : Nat) 10 tx n a q m d
    have hX := boxed2_kind w (1 : Nat) 10 tx n a q m d
    have hC := boxed2_five w (1 : Nat) 10 tx n a q m d
    unfold boxed2 boxed at hB hX hC
    go_enter Tryz.func105, Tryz.ntmps105
    go_upto_region 2 with (fail)
    generalize World.alloc (World.alloc w _) _ = w1 at hB hX hC ⊢
    generalize w.heap.size + 1 = B at hC ⊢
    obtain ⟨c0, c1, c2, c3, c4⟩ := hC
    replace hB := Lib.hid hB
    go_wp2_with fail
    all_goals
      go_ret
      refine ⟨ret_b ?_, hB.out⟩
      rw [hres.out]
      have e0' := e0.out
      simp_all [beqI]
end Go.Proofs.YtplbfmcgddnkeaaGreatDoor
end
