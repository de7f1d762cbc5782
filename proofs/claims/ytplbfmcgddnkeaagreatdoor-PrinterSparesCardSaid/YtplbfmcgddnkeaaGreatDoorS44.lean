/- Joined: FulR, SprR, LawSpr. -/
import Derived.Test.YtplbfmcgddnkeaaGreatDoorS30
import Derived.Test.YtplbfmcgddnkeaaGreatDoorS34
import Derived.Test.YtplbfmcgddnkeaaGreatDoorS43
import Derived.Test.YtplbfmcgddnkeaaGreatDoorS32
import Derived.Test.YtplbfmcgddnkeaaGreatDoorS33
set_option linter.unusedVariables false
set_option linter.unusedSimpArgs false
section
set_option maxHeartbeats 1000000
set_option maxRecDepth 100000
namespace Go.Proofs.YtplbfmcgddnkeaaGreatDoor
open Go.RowKit
theorem words_reserved : Words reservedB := by
  intro w hw
  simp only [List.mem_cons, List.not_mem_nil, or_false] at hw
  rcases hw with rfl | rfl | rfl | rfl | rfl | rfl | rfl | rfl | rfl | rfl | rfl <;> kernel_rfl
theorem rreadCond_any (s : List UInt8) (w : World) (hs : s.length ≤ 90000) : Calls Tryz.prog 25 #[.string ⟨s.toArray⟩, .int .i64 1] w (PRes w (parseO s (rdO .cond))) := by
  unfold parseO
  split
  · rename_i d x hT
    exact rread_err s 1 d x w (by omega) (by have := scan_err hT; omega) hT
  · rename_i T hT
    have hS := scanned hT
    have hl := hS.len
    exact rread_1 s (mrd reservedB T (fuelOf T + 2) .cond) T w _ (by omega) hT (by omega) hS.pos hS.ok.last (fun t ht => by have := hS.txt t ht; omega) (fun pb tb c W s o h hl hm => (rcond_rd pb tb c T _).call W s o.1 o.2 h hl hm) (whole_nn (rdO_nn hS .cond 0 0 hS.pos)) (whole_rel hS.pos (rd_rel hS.ok words_reserved _ .cond))
theorem rreadScheme_any (s : List UInt8) (w : World) (hs : s.length ≤ 90000) : Calls Tryz.prog 25 #[.string ⟨s.toArray⟩, .int .i64 2] w (PRes w (parseO s (rdO .scheme))) := by
  unfold parseO
  split
  · rename_i d x hT
    exact rread_err s 2 d x w (by omega) (by have := scan_err hT; omega) hT
  · rename_i T hT
    have hS := scanned hT
    have hl := hS.len
    exact rread_2 s (mrd reservedB T (fuelOf T + 2) .scheme) T w _ (by omega) hT (by omega) hS.pos hS.ok.last (fun t ht => by have := hS.txt t ht; omega) (fun pb tb c W s o h hl hm => (rsch_rd pb tb c T _).call W s o.1 o.2 h hl hm) (whole_nn (rdO_nn hS .scheme 0 0 hS.pos)) (whole_rel hS.pos (rd_rel hS.ok words_reserved _ .scheme))
theorem rreadFormula_any (s : List UInt8) (w : World) (hs : s.length ≤ 90000) : Calls Tryz.prog 25 #[.string ⟨s.toArray⟩, .int .i64 3] w (PRes w (parseO s (rdO .formula))) := by
  unfold parseO
  split
  · rename_i d x hT
    exact rread_err s 3 d x w (by omega) (by have := scan_err hT; omega) hT
  · rename_i T hT
    have hS := scanned hT
    have hl := hS.len
    exact rread_3 s (mrd reservedB T (fuelOf T + 2) .formula) T w _ (by omega) hT (by omega) hS.pos hS.ok.last (fun t ht => by have := hS.txt t ht; omega) (fun pb tb c W s o h hl hm => (rfor_rd pb tb c T _).call W s o.1 o.2 h hl hm) (whole_nn (rdO_nn hS .formula 0 0 hS.pos)) (whole_rel hS.pos (rd_rel hS.ok words_reserved _ .formula))
end Go.Proofs.YtplbfmcgddnkeaaGreatDoor
end
section
set_option maxHeartbeats 4000000
set_option maxRecDepth 100000
namespace Go.Proofs.YtplbfmcgddnkeaaGreatDoor
open Go.RowKit
theorem rread_some {z : Nat} (hz : 0 < z ∧ z < 4) (s : List UInt8) (w : World) (hs : s.length ≤ 90000) : Calls Tryz.prog 25 #[.string ⟨s.toArray⟩, .int .i64 z] w (PResN w (parseO s (rdK z))) := by
  match z, hz with
  | 1, _ => exact (rreadCond_any s w hs).mono fun e w' h => h.norm
  | 2, _ => exact (rreadScheme_any s w hs).mono fun e w' h => h.norm
  | 3, _ => exact (rreadFormula_any s w hs).mono fun e w' h => h.norm
end Go.Proofs.YtplbfmcgddnkeaaGreatDoor
end
section
set_option maxHeartbeats 4000000
set_option maxRecDepth 100000
namespace Go.Proofs.YtplbfmcgddnkeaaGreatDoor
open Go.RowKit
def pairCells (l : List (Nat × Nat)) : List Value := l.flatMap fun x => [.int .i64 x.1, .int .i64 x.2]
theorem pairCells_app (l : List (Nat × Nat)) (x : Nat × Nat) : pairCells (l ++ [x]) = pairCells l ++ [.int .i64 x.1, .int .i64 x.2] := by unfold pairCells; simp
theorem pairCells_at : ∀ (l : List (Nat × Nat)) (k : Nat) (h : k < l.length), (pairCells l)[k * 2]? = some (.int .i64 l[k].1) ∧ (pairCells l)[k * 2 + 1]? = some (.int .i64 l[k].2)
  | x :: r, 0, _ => ⟨rfl, rfl⟩
  | x :: r, k + 1, h => by
    have := pairCells_at r k (by simpa using h)
    have e : ∀ j, (pairCells (x :: r))[(k + 1) * 2 + j]? = (pairCells r)[k * 2 + j]? := fun j => by
      rw [show (k + 1) * 2 + j = (k * 2 + j) + 2 from by omega]; rfl
    exact ⟨(e 0).trans this.1, (e 1).trans this.2⟩
theorem int_infoS : (Tryz.prog.info? 3).map (fun i => (i.zero, i.size, i.bytes)) = some (some (.int .i64 0), 1, 8) := by kernel_rfl
structure Gath (s : List UInt8) (T : List Tok) (j : Nat) (ps : List (Nat × Nat)) (os : List Nat) : Prop where
  le : j ≤ T.length
  pairs : ∀ x ∈ ps, PairAt s x
  opens : ∀ o ∈ os, o < j ∧ (tk T o).text = [40]
  few : ps.length ≤ j ∧ os.length ≤ j
theorem read_some (t : Syn) (hM : Mod t) (q : Option Addr) (d : Nat) (kd : Int) (k : Nat) (hk : 0 < k ∧ k < 4) (hkd : kd.tmod 4 = k) (w : World) (hE : PEnv w) (ht : TabW w) (hks : KidR w t.kids (.slice q t.kids.length d)) (hbig : okK k t = true → (wrK k t).length ≤ 140737488355328) :
    Calls Tryz.prog 17 #[nodeV t q d, .int .u8 kd] w (RdPost w (prK k t) (parseO (prK k t).1 (rdK k))) := by
  match k, hk with
  | 1, _ => exact read1_any t hM q d kd hkd w hE ht hks hbig
  | 2, _ => exact read2_any t hM q d kd hkd w hE ht hks hbig
  | 3, _ => exact read3_any t hM q d kd hkd w hE ht hks hbig
theorem rread_spared {z : Nat} (hz : 0 < z ∧ z < 4) {t : Syn} {l : List UInt8} (hl : pb l < pb (wrK z t)) (hs : l.length ≤ 90000) (W : World) : Calls Tryz.prog 25 #[.string ⟨l.toArray⟩, .int .i64 z] W fun e w' => Below W.heap.size W w' ∧
    ∃ (y : Syn) (q : Option Addr) (d : Nat) (po : Int) (er : Nat), e = .returned (.tuple #[nodeV y q d, .int .i64 po, .int .i64 er]) ∧ KidR w' y.kids (.slice q y.kids.length d) ∧ (er = 0 → sameB t y = false) := by
  refine (rread_some hz l W hs).mono ?_
  rintro e w' ⟨hb, y, q, d, po, he, hk, hy⟩
  refine ⟨hb, y, q, d, po, _, he, hk _ (Keep.refl _ _), fun h0 => ?_⟩
  cases ho : parseO l (rdK z) with
  | none => exact absurd ho (parseK_nn z l)
  | err p x =>
    rw [ho] at h0
    have := parseK_err ho
    have h0 : x = 0 := h0
    omega
  | ok u j =>
    rw [hy u j ho]
    exact spared hz hl ho
attribute [local go_sem ↓] Go.wp_at_zero Go.wp_at_succ pair_open
theorem walkSpares (t : Syn) (p : Option Addr) (c : Nat) (kd wh : Int) (w : World) (hks : KidR w t.kids (.slice p t.kids.length c)) (ha : (Lit.int .u8 kd).wf = true) (hb : (Lit.int .u8 wh).wf = true) (he : PEnv w) (ht : TabW w) :
    Calls Tryz.prog 7 #[nodeV t p c, .int .u8 kd, .int .u8 wh] w (VPost w true) := by
  have hAw := Lib.hid (fun W (hb : Below w.heap.size w W) => awake09_any W (he.below hb) (tab_low ht hb))
  have hFw := fun W (hb : Below w.heap.size w W) => few_any t p c W (hks.low hb)
  obtain ⟨z, hz4, hka⟩ : ∃ k : Nat, (0 < k ∧ k < 4) ∧ 1 + kd % 3 = k := ⟨(1 + kd % 3).toNat, by omega, by omega⟩
  have hkt : kd.tmod 3 = (z : Int) - 1 := by rw [Int.tmod_eq_emod_of_nonneg (u8_bounds ha).1]; omega
  have hE := Lib.hid he
  have hT := Lib.hid ht
  have hwh := u8_bounds hb
  clear ha hb hka he ht
  cases hf : fewB t with
  | false =>
    rw [hf] at hFw
    obtain ⟨k, tx, n, a, ks⟩ := t
    replace hFw : ∀ W, Below w.heap.size w W → Calls Tryz.prog 9 #[(Value.agg #[.int .i64 k, .string ⟨List.toArray tx⟩, .int .i64 n, .int .i64 a, .slice p ks.length c])] W (VPost W false) := hFw
    show Calls Tryz.prog 7 #[(Value.agg #[.int .i64 k, .string ⟨List.toArray tx⟩, .int .i64 n, .int .i64 a, .slice p ks.length c]), .int .u8 kd, .int .u8 wh] w _
    replace hFw := Lib.hid hFw
    clear hks hf hz4
    generalize ks.length = m at *
    have hB := boxed_below w k tx n a p m c
    have hC := boxed_new w k tx n a p m c
    unfold boxed at hB hC
    go_enter Tryz.func7, Tryz.ntmps7
    go_upto_region 1 with (fail)
    generalize World.alloc w _ = w1 at hB hC ⊢
    obtain ⟨c0, c1, c2, c3, c4⟩ := five hC
    replace hB := Lib.hid hB
    replace hC := Lib.hid hC
    go_wp2_with (first | (go_at_call 9; (with_reducible refine (hFw.out _ hB.out).mono ?_); rintro e x1 ⟨rfl, b1⟩; have hB1 := Lib.hid (hB.out.trans (b1.mono hB.out.size))) | (go_at_call 10; (with_reducible refine (hAw.out _ hB1.out).mono ?_); rintro e x2 ⟨rfl, b2⟩))
    all_goals
      go_ret
      exact ⟨rfl, hB1.out.trans (b2.mono hB1.out.size)⟩
  | true =>
    have hM := few_mod hf
    have hlen : okK z t = true → (wrK z t).length ≤ 140737488355328 := fun h => by have := few_light hf; have := wrK_len h; omega
    have hzt : (z : Int).tmod 4 = z := by rw [Int.tmod_eq_emod_of_nonneg (by omega)]; omega
    have hRd := fun W (hb : Below w.heap.size w W) => read_some t hM p c z z hz4 hzt W (hE.out.below hb) (tab_low hT.out hb) (hks.low hb) hlen
    rw [hf] at hFw
    obtain ⟨txt, er, hp⟩ : ∃ (txt : List UInt8) (er : Nat), prK z t = (txt, er) := ⟨_, _, rfl⟩
    rw [hp] at hRd
    have hp0 : er = 0 → txt = wrK z t ∧ ∃ T, scan txt = .ok T := fun h => prK_zero (by rw [hp, h])
    have hRd2 : ∀ W, Below w.heap.size w W → Calls Tryz.prog 17 #[nodeV t p c, .int .u8 z] W fun e w' => Below W.heap.size W w' ∧ ∃ (y : Syn) (q : Option Addr) (d g : Nat), e = .returned (.tuple #[nodeV y q d, .string ⟨txt.toArray⟩, .int .i64 er, .int .i64 g]) := fun W hb => (hRd W hb).mono fun e w' h => by
      obtain ⟨h1, y, q, d, h2, -⟩ := h
      exact ⟨h1, y, q, d, _, h2⟩
    have hSm := fun y q' d' W (hb : Below w.heap.size w W) (hy : KidR W y.kids (.slice q' y.kids.length d')) => same_any _ t y (Nat.lt_succ_self _) hM p q' c d' W (hks.low hb) hy
    have hRR := fun l (hl : pb l < pb (wrK z t)) (hs : l.length ≤ 90000) W => rread_spared hz4 hl hs W
    obtain ⟨sd, hsd⟩ : ∃ f : Syn → Bool, f = sameB t := ⟨_, rfl⟩
    rw [← hsd] at hSm hRR
    clear hRd hlen hzt hks hf hM hsd hp
    generalize wrK z t = full at *
    obtain ⟨k, tx, n, a, ks⟩ := t
    replace hFw : ∀ W, Below w.heap.size w W → Calls Tryz.prog 9 #[(Value.agg #[.int .i64 k, .string ⟨List.toArray tx⟩, .int .i64 n, .int .i64 a, .slice p ks.length c])] W (VPost W true) := hFw
    replace hRd2 : ∀ W, Below w.heap.size w W → Calls Tryz.prog 17 #[(Value.agg #[.int .i64 k, .string ⟨List.toArray tx⟩, .int .i64 n, .int .i64 a, .slice p ks.length c]), .int .u8 z] W fun e w' => Below W.heap.size W w' ∧ ∃ (y : Syn) (q : Option Addr) (d g : Nat), e = .returned (.tuple #[nodeV y q d, .string ⟨txt.toArray⟩, .int .i64 er, .int .i64 g]) := hRd2
    replace hSm : ∀ y q' d' W, Below w.heap.size w W → KidR W y.kids (.slice q' y.kids.length d') → Calls Tryz.prog 18 #[(Value.agg #[.int .i64 k, .string ⟨List.toArray tx⟩, .int .i64 n, .int .i64 a, .slice p ks.length c]), nodeV y q' d'] W (VPost W (sd y)) := hSm
    show Calls Tryz.prog 7 #[(Value.agg #[.int .i64 k, .string ⟨List.toArray tx⟩, .int .i64 n, .int .i64 a, .slice p ks.length c]), .int .u8 kd, .int .u8 wh] w _
    obtain ⟨y0, rfl⟩ : ∃ y0, z = 1 + y0 := ⟨z - 1, by omega⟩
    replace hkt : (1 + kd.tmod 3) % 256 = 1 + (y0 : Int) := by omega
    rw [show ((1 + y0 : Nat) : Int) = 1 + (y0 : Int) by omega] at hRd2 hRR
    replace hz4 := Lib.hid hz4
    replace hFw := Lib.hid hFw
    replace hRd2 := Lib.hid hRd2
    replace hRR := Lib.hid hRR
    replace hSm := Lib.hid hSm
    replace hp0 := Lib.hid hp0
    generalize ks.length = m at *
    have hB := boxed_below w k tx n a p m c
    have hC := boxed_new w k tx n a p m c
    unfold boxed at hB hC
    go_enter Tryz.func7, Tryz.ntmps7
    go_upto_region 1 with (fail)
    generalize World.alloc w _ = w1 at hB hC ⊢
    obtain ⟨c0, c1, c2, c3, c4⟩ := five hC
    replace hB := Lib.hid hB
    replace hC := Lib.hid hC
    have hF := Lib.hid (fun W (h : Below w1.heap.size w1 W) => five_low ⟨c0, c1, c2, c3, c4⟩ h)
    by_cases her : er = 0
    case neg =>
      have hei : ¬ (er : Int) = 0 := by omega
      clear hRR hSm hp0
      go_wp2_with (first | (go_at_call 9; (with_reducible refine (hFw.out _ hB.out).mono ?_); rintro e x1 ⟨rfl, b1⟩; have hB1 := Lib.hid (hB.out.trans (b1.mono hB.out.size)); obtain ⟨d0, d1, d2, d3, d4⟩ := hF.out _ b1; clear c0 c1 c2 c3 c4) | (go_at_call 17; (with_reducible refine (hRd2.out _ hB1.out).mono ?_); rintro e x2 ⟨b2, y, q, d, g, rfl⟩; have hB2 := Lib.hid (hB1.out.trans (b2.mono hB1.out.size))) | (go_at_call 10; (with_reducible refine (hAw.out _ (hB2.out.alloc hB2.out.size _)).mono ?_); rintro e x3 ⟨rfl, b3⟩))
      all_goals
        go_ret
        exact ⟨rfl, (hB2.out.alloc hB2.out.size _).trans (b3.mono (hB2.out.alloc hB2.out.size _).size)⟩
    obtain ⟨hfull, T, hsc⟩ := hp0.out her
    subst hfull
    subst her
    replace hRd2 : Hid (∀ W, Below w.heap.size w W → Calls Tryz.prog 17 #[(Value.agg #[.int .i64 k, .string ⟨List.toArray tx⟩, .int .i64 n, .int .i64 a, .slice p m c]), .int .u8 (1 + (y0 : Int))] W fun e w' => Below W.heap.size W w' ∧ ∃ (y : Syn) (q : Option Addr) (d g : Nat), e = .returned (.tuple #[nodeV y q d, .string ⟨txt.toArray⟩, .int .i64 0, .int .i64 g])) := hRd2
    clear hp0
    by_cases hlong : txt.length ≤ 2000
    case neg =>
      have hli : (2000 : Int) < txt.length := by omega
      clear hRR hSm hsc hlong
      go_wp2_with (first | (go_at_call 9; (with_reducible refine (hFw.out _ hB.out).mono ?_); rintro e x1 ⟨rfl, b1⟩; have hB1 := Lib.hid (hB.out.trans (b1.mono hB.out.size)); obtain ⟨d0, d1, d2, d3, d4⟩ := hF.out _ b1; clear c0 c1 c2 c3 c4) | (go_at_call 17; (with_reducible refine (hRd2.out _ hB1.out).mono ?_); rintro e x2 ⟨b2, y, q, d, g, rfl⟩; have hB2 := Lib.hid (hB1.out.trans (b2.mono hB1.out.size))) | (go_at_call 10; (with_reducible refine (hAw.out _ (hB2.out.alloc hB2.out.size _)).mono ?_); rintro e x3 ⟨rfl, b3⟩))
      all_goals
        go_ret
        exact ⟨rfl, (hB2.out.alloc hB2.out.size _).trans (b3.mono (hB2.out.alloc hB2.out.size _).size)⟩
    have hli : ¬ (2000 : Int) < txt.length := by omega
    have hSc := Lib.hid (fun W (hb : Below w.heap.size w W) => by have h := scan_any txt W (by omega) (hE.out.below hb).signs (hE.out.below hb).signs.lt'; rw [hsc] at h; exact h)
    have hpos := Lib.hid (fun (i : Nat) (hi : i < T.length) => tok_in hsc hi)
    have hpair := Lib.hid (fun (f i : Nat) (h1 : f < i) (h2 : i < T.length) (h3 : (tk T f).text = [40]) (h4 : (tk T i).text = [41]) => pair_at hsc h1 h2 h3 h4)
    have hTl : T.length ≤ 2001 := by have := (scanned hsc).len; omega
    have hTpos := (scanned hsc).pos
    clear hsc
    go_upto_region 5 with (first | (go_at_call 9; (with_reducible refine (hFw.out _ hB.out).mono ?_); rintro e x1 ⟨rfl, b1⟩; have hB1 := Lib.hid (hB.out.trans (b1.mono hB.out.size)); obtain ⟨d0, d1, d2, d3, d4⟩ := hF.out _ b1; replace b1 := Lib.hid b1; clear c0 c1 c2 c3 c4) | (go_at_call 17; (with_reducible refine (hRd2.out _ hB1.out).mono ?_); rintro e x2 ⟨b2, y, q, d, g, rfl⟩; have bA := (b1.out.trans (b2.mono b1.out.size)).alloc (b1.out.trans (b2.mono b1.out.size)).size (.cells (five5 y q d) 24); have hB2 := Lib.hid (hB.out.trans (bA.mono hB.out.size))))
    unfold five5 at bA hB2
    replace hF := Lib.hid (fun W (h : Below (World.alloc x2 _).heap.size _ W) => hF.out W (bA.trans (h.mono bA.size)))
    generalize World.alloc x2 _ = w3 at hB2 hF ⊢
    clear hRd2 hFw hB hB1 hkt b1 b2 bA
    have hTp : 0 < T.length := hTpos
    go_upto_region 8 with (go_at_call 23; (with_reducible refine (hSc.out _ hB2.out).mono ?_); rintro e w4 ⟨b4, v, rfl, hown⟩)
    obtain ⟨g, cap, rfl⟩ := owns_form hown hTp
    have hTok := Lib.hid (fun W (hb : Below w4.heap.size w4 W) k (hk : k < T.length) => (show W.cell? ⟨g, k * 3, none⟩ = some (.int .i64 (tk T k).kind) ∧ W.cell? ⟨g, k * 3 + 1, none⟩ = some (.string ⟨(tk T k).text.toArray⟩) ∧ W.cell? ⟨g, k * 3 + 2, none⟩ = some (.int .i64 (tk T k).pos) from by
      obtain ⟨h0, h1, h2⟩ := (tokAt_owns hown).2 k hk
      have e : tk T k = T[k] := by unfold tk; rw [List.getD_eq_getElem?_getD, List.getElem?_eq_getElem hk]; rfl
      rw [e]
      exact ⟨cell_low h0 hb, cell_low h1 hb, cell_low h2 hb⟩))
    have hB4 := Lib.hid (hB2.out.trans (b4.mono hB2.out.size))
    have hF4 := Lib.hid (fun W (h : Below w4.heap.size w4 W) => hF.out W (b4.trans (h.mono b4.size)))
    clear hSc hF hB2 hown b4
    obtain ⟨i1, hi1, hz10, hz11, hz12⟩ := info_parts int_infoS
    have hI1 := Lib.hid (And.intro hi1 (And.intro hz10 (And.intro hz11 hz12)))
    clear hi1 hz10 hz11 hz12
    go_wp2_with fail
    go_loopw [15, 16, 58] (fun v15 v16 v58 wr => ∃ (j : Nat) (ps : List (Nat × Nat)) (os : List Nat), v58 = .int .i64 j ∧ j ≤ T.length ∧ Hid (Gath txt T j ps os) ∧ Hid (wr.ownsRow w4.heap.size 47 2 v15 ps.length (pairCells ps)) ∧ Hid (wr.ownsRow w4.heap.size 3 1 v16 os.length (os.map fun (i : Nat) => Value.int .i64 i)) ∧ Hid (Below w4.heap.size w4 wr)) (fun _ _ v58 _ => T.length - (intOf v58).toNat)
    case atStart => exact ⟨0, [], [], rfl, Nat.zero_le _, Lib.hid ⟨Nat.zero_le _, fun x h => (List.not_mem_nil h).elim, fun x h => (List.not_mem_nil h).elim, by simp⟩, Lib.hid (World.ownsRow_nil _ _ _ _), Lib.hid (World.ownsRow_nil _ _ _ _), Lib.hid (Below.refl _ _)⟩
    case round =>
      obtain ⟨j, ps, os, rfl, hj, hG, hP, hO, hb⟩ := hrel
      by_cases hlt : j < T.length
      · have hji : (j : Int) < T.length := by omega
        obtain ⟨t0, t1, t2⟩ := hTok.out wr hb.out j hlt
        obtain ⟨hq0, hq1⟩ := hpos.out j hlt
        have hdef : Hid (tk T j = ⟨(tk T j).kind, (tk T j).text, (tk T j).pos⟩) := Lib.hid rfl
        generalize (tk T j).kind = qk at t0 hdef
        generalize (tk T j).pos = q at t2 hdef hq0 hq1
        generalize (tk T j).text = qt at t1 hdef
        have hq0' : ¬ q < 0 := by omega
        have hq1' : ¬ (txt.length : Int) < q := by omega
        have hPa := hP.out.alloc (.cells #[.int .i64 qk, .string ⟨qt.toArray⟩, .int .i64 q] 45)
        have hOa := hO.out.alloc (.cells #[.int .i64 qk, .string ⟨qt.toArray⟩, .int .i64 q] 45)
        have hXa := heap_alloc_new wr (.cells #[.int .i64 qk, .string ⟨qt.toArray⟩, .int .i64 q] 45)
        have hBa := hb.out.alloc hb.out.size (.cells #[.int .i64 qk, .string ⟨qt.toArray⟩, .int .i64 q] 45)
        have hXl : w4.heap.size ≤ wr.heap.size := hb.out.size
        clear hP hO hb
        go_upto_region 15 with (fail)
        generalize World.alloc wr _ = wa at hPa hOa hXa hBa ⊢
        clear t0 t1 t2
        generalize wr.heap.size = X at hXa hXl ⊢
        have x0 : wa.cell? ⟨X, 0, none⟩ = some (.int .i64 qk) := by rw [World.cell?, hXa]; rfl
        have x1 : wa.cell? ⟨X, 1, none⟩ = some (.string ⟨qt.toArray⟩) := by rw [World.cell?, hXa]; rfl
        have x2 : wa.cell? ⟨X, 2, none⟩ = some (.int .i64 q) := by rw [World.cell?, hXa]; rfl
        replace hPa := Lib.hid hPa
        replace hOa := Lib.hid hOa
        replace hXa := Lib.hid hXa
        replace hBa := Lib.hid hBa
        cases hop : (qt == [40]) with
        | true =>
          obtain rfl : qt = [40] := beq_iff_eq.1 hop
          replace hop := Lib.hid hop
          obtain ⟨hi1, hz10, hz11, hz12⟩ := hI1.out
          go_upto_region 18 with (fail)
          go_wp2_with (at_builtin; refine wpList_append_own _ rfl _ _ 43 rfl w4.heap.size 3 i1 _ 1 8 Tryz.underlying43 hi1 hz10 hz11 hz12 rfl (by decide) _ _ _ rfl (hOa.out.alloc _) ⟨wa.heap.size, 0, none⟩ 1 1 [.int .i64 j] rfl rfl ?c1 ?c2 ?c3 ?c4 ?c5 ?_)
          case c2 => first | rfl | (simp [Value.oneCell']; done) | (intro u hu; rw [List.mem_singleton.1 hu]; rfl)
          case c3 => have := hG.out.few; unfold maxLen; omega
          case c4 => have := hG.out.few; omega
          case c5 => have := hBa.out.size; simp; omega
          intro v' w5 hown' hgrow _
          have hP5 := Lib.hid (owns_keep (hPa.out.alloc _) hgrow (fun k hk => owns_apart hPa.out hOa.out (by decide) k hk))
          have hB5 := Lib.hid ((hBa.out.alloc hBa.out.size (.cells #[.int .i64 j] 3)).grown hgrow (by have := hBa.out.size; simp; omega) (fun g hg => (hOa.out.lt g hg).1))
          have hG5 : Hid (Gath txt T (j + 1) ps (os ++ [j])) := Lib.hid ⟨by omega, hG.out.pairs, fun o ho => by
            rcases List.mem_append.1 ho with ho | ho
            · have := hG.out.opens o ho; exact ⟨by omega, this.2⟩
            · rw [List.mem_singleton.1 ho]; exact ⟨by omega, by rw [hdef.out]⟩, by have := hG.out.few; rw [List.length_append]; simp only [List.length_cons, List.length_nil]; omega⟩
          have hO5 : Hid (w5.ownsRow w4.heap.size 3 1 v' (os ++ [j]).length ((os ++ [j]).map fun (i : Nat) => Value.int .i64 i)) := Lib.hid (by rw [List.map_append, List.length_append]; exact hown')
          have hX5 := grown_blk hgrow (alloc_blk hXa.out _) (owns_blk hOa.out hXa.out (by decide))
          clear hgrow hown' x0 x1 x2 hi1 hz10 hz11 hz12
          have x1 : w5.cell? ⟨X, 1, none⟩ = some (.string ⟨List.toArray [40]⟩) := by rw [World.cell?, hX5]; rfl
          replace hX5 := Lib.hid hX5
          go_wp2_with fail
          go_roundw
          case rel => exact ⟨j + 1, ps, os ++ [j], by go_num, by omega, hG5, hP5, hO5, hB5⟩
          case measure => simp [intOf]; omega
        | false =>
          have hG5 : Hid (Gath txt T (j + 1) ps os) := Lib.hid ⟨by omega, hG.out.pairs, fun o ho => by have := hG.out.opens o ho; exact ⟨by omega, this.2⟩, by have := hG.out.few; omega⟩
          cases hcl : (qt == [41]) with
          | false =>
            go_wp2_with fail
            go_roundw
            case rel => exact ⟨j + 1, ps, os, by go_num, by omega, hG5, hPa, hOa, hBa⟩
            case measure => simp [intOf]; omega
          | true =>
            obtain rfl : qt = [41] := beq_iff_eq.1 hcl
            rcases List.eq_nil_or_concat os with rfl | ⟨os', f, rfl⟩
            · obtain ⟨p6, c6, hv6⟩ := owns_len hOa.out
              replace hv6 : u16 = .slice p6 0 c6 := hv6
              subst hv6
              go_wp2_with fail
              go_roundw
              case rel => exact ⟨j + 1, ps, [], by go_num, by omega, hG5, hPa, hOa, hBa⟩
              case measure => simp [intOf]; omega
            · rw [List.concat_eq_append] at hOa hG hG5
              obtain ⟨g6, c6, hv6⟩ := owns_form hOa.out (by simp)
              rw [show (os' ++ [f]).length = os'.length + 1 by simp] at hv6
              subst hv6
              have hfc : wa.cell? ⟨g6, os'.length, none⟩ = some (.int .i64 f) := owns_cell (n := os'.length + 1) (by have h := hOa.out; have e : (os' ++ [f]).length = os'.length + 1 := (by simp); rw [e] at h; exact h) os'.length _ (by simp)
              have hfj := hG.out.opens f (by simp)
              have hO6 := Lib.hid (show wa.ownsRow w4.heap.size 3 1 (.slice (some ⟨g6, 0, none⟩) os'.length c6) os'.length (os'.map fun (i : Nat) => Value.int .i64 i) from by
                have h := owns_take (m := os'.length) (show wa.ownsRow w4.heap.size 3 1 (.slice (some ⟨g6, 0, none⟩) (os'.length + 1) c6) (os'.length + 1) ((os' ++ [f]).map fun (i : Nat) => Value.int .i64 i) from by have h := hOa.out; have e : (os' ++ [f]).length = os'.length + 1 := (by simp); rw [e] at h; exact h) (by omega)
                rw [List.map_append, List.take_left' (by simp)] at h
                exact h)
              have hG6 : Hid (Gath txt T (j + 1) ps os') := Lib.hid ⟨by omega, hG5.out.pairs, fun o ho => hG5.out.opens o (by simp [ho]), by have := hG5.out.few; rw [List.length_append] at this; simp only [List.length_cons, List.length_nil] at this; omega⟩
              have hol : os'.length ≤ 2001 := by have := hG5.out.few; rw [List.length_append] at this; simp only [List.length_cons, List.length_nil] at this; omega
              have hlp : (0 : Int) < (os'.length : Int) + 1 := by omega
              have hcn : os'.length + 1 ≤ c6 := owns_cap hOa.out
              have hcp : (os'.length : Int) ≤ (c6 : Int) := by omega
              obtain ⟨pr, e1, e2, hpr⟩ := hpair.out f j hfj.1 hlt hfj.2 (by rw [hdef.out])
              have e2' : q = (pr.2 : Int) := by rw [hdef.out] at e2; exact e2
              have hG7 : Hid (Gath txt T (j + 1) (ps ++ [pr]) os') := Lib.hid ⟨by omega, fun x hx => by
                rcases List.mem_append.1 hx with hx | hx
                · exact hG.out.pairs x hx
                · rw [List.mem_singleton.1 hx]; exact hpr, hG6.out.opens, by have := hG.out.few; have := hG6.out.few; rw [List.length_append]; simp only [List.length_cons, List.length_nil]; omega⟩
              have hpl : ps.length ≤ 2001 := by have := hG.out.few; omega
              have hfT : f < T.length := by omega
              clear e2 hpr hG hG5 hop hcl hOa hq0 hq1 hdef
              subst e2'
              replace e1 := Lib.hid e1
              by_cases hf0 : f = 0
              · have hfb : ((f : Int) == 0) = true := by rw [beq_iff_eq]; omega
                replace hf0 := Lib.hid hf0
                go_upto_region 23 with (fail)
                obtain ⟨u0, u1, u2⟩ := hTok.out wa hBa.out (f) hfT
                rw [e1.out] at u2
                go_wp2_with fail
                go_region_with (refine step_pair (B := w4.heap.size) (n := ps.length) (xs := pairCells ps) ?h1 (heap_alloc_new _ _) ?h3 ?h4 (by rfl) (by rfl) (by rfl) ?_; (case h1 => first | exact (owns_heap hPa.out rfl).alloc _ | exact owns_heap (hPa.out.alloc _) rfl); (case h3 => omega); (case h4 => have := hBa.out.size; simp; omega); intro v' w7 hown' hgrow)
                all_goals
                  have hP7 : Hid (w7.ownsRow w4.heap.size 47 2 v' (ps ++ [pr]).length (pairCells (ps ++ [pr]))) := Lib.hid (by rw [pairCells_app, List.length_append]; exact hown')
                  have hO7 := Lib.hid (owns_keep (by first | exact (owns_heap hO6.out rfl).alloc _ | exact owns_heap (hO6.out.alloc _) rfl) hgrow (fun k hk => owns_apart hO6.out hPa.out (by decide) k hk))
                  have hB7 : Hid (Below w4.heap.size w4 w7) := Lib.hid (Below.trans (by first | exact below_drawn (hBa.out.alloc hBa.out.size _) 1 | exact (below_drawn hBa.out 1).alloc hBa.out.size _) (below_grown hgrow (fun k hk => (hPa.out.lt k hk).1) (by have := hBa.out.size; simp; omega)))
                  clear hgrow hown' u0 u1 u2 x0 x1 x2
                  go_wp2_with fail
                  go_roundw
                  case rel => exact ⟨j + 1, ps ++ [pr], os', by go_num, by omega, hG7, hP7, hO7, hB7⟩
                  case measure => simp [intOf]; omega
              · obtain ⟨f1, rfl⟩ : ∃ f1, f = f1 + 1 := ⟨f - 1, by omega⟩
                have hfb : (((f1 + 1 : Nat) : Int) == 0) = false := by rw [beq_eq_false_iff_ne]; omega
                have hfc2 : ((f1 : Int) + 1 == 0) = false := by rw [beq_eq_false_iff_ne]; omega
                have hff : ((f1 : Int)) < (T.length : Int) := by omega
                replace hf0 := Lib.hid hf0
                obtain ⟨y0', y1', y2'⟩ := hTok.out wa hBa.out f1 (by omega)
                go_upto_region 23 with (go_at_call 24; (with_reducible refine (calls_any _ _ _ _).mono ?_); rintro e w6 ⟨⟨b, rfl⟩, b6⟩; have hPw := Lib.hid (owns_below hPa.out b6); have hOw := Lib.hid (owns_below hO6.out b6); have hXw := Lib.hid ((b6.block X (Array.getElem?_eq_some_iff.1 hXa.out).1).trans hXa.out); have hBw := Lib.hid (hBa.out.trans (b6.mono hBa.out.size)); clear b6 y0' y1' y2' x0 x1 x2)
                case roundEnd =>
                  go_roundw
                  case rel => exact ⟨j + 1, ps, os', by go_num, by omega, hG6, hPw, hOw, hBw⟩
                  case measure => simp [intOf]; omega
                have x0 : w6.cell? ⟨X, 0, none⟩ = some (.int .i64 qk) := by rw [World.cell?, hXw.out]; rfl
                have x1 : w6.cell? ⟨X, 1, none⟩ = some (.string ⟨List.toArray [41]⟩) := by rw [World.cell?, hXw.out]; rfl
                have x2 : w6.cell? ⟨X, 2, none⟩ = some (.int .i64 pr.2) := by rw [World.cell?, hXw.out]; rfl
                obtain ⟨u0, u1, u2⟩ := hTok.out w6 hBw.out (f1 + 1) hfT
                rw [e1.out] at u2
                go_wp2_with fail
                go_region_with (refine step_pair (B := w4.heap.size) (n := ps.length) (xs := pairCells ps) ?h1 (heap_alloc_new _ _) ?h3 ?h4 (by rfl) (by rfl) (by rfl) ?_; (case h1 => first | exact (owns_heap hPw.out rfl).alloc _ | exact owns_heap (hPw.out.alloc _) rfl); (case h3 => omega); (case h4 => have := hBw.out.size; simp; omega); intro v' w7 hown' hgrow)
                all_goals
                  have hP7 : Hid (w7.ownsRow w4.heap.size 47 2 v' (ps ++ [pr]).length (pairCells (ps ++ [pr]))) := Lib.hid (by rw [pairCells_app, List.length_append]; exact hown')
                  have hO7 := Lib.hid (owns_keep (by first | exact (owns_heap hOw.out rfl).alloc _ | exact owns_heap (hOw.out.alloc _) rfl) hgrow (fun k hk => owns_apart hOw.out hPw.out (by decide) k hk))
                  have hB7 : Hid (Below w4.heap.size w4 w7) := Lib.hid (Below.trans (by first | exact below_drawn (hBw.out.alloc hBw.out.size _) 1 | exact (below_drawn hBw.out 1).alloc hBw.out.size _) (below_grown hgrow (fun k hk => (hPw.out.lt k hk).1) (by have := hBw.out.size; simp; omega)))
                  clear hgrow hown' u0 u1 u2 x0 x1 x2
                  go_wp2_with fail
                  go_roundw
                  case rel => exact ⟨j + 1, ps ++ [pr], os', by go_num, by omega, hG7, hP7, hO7, hB7⟩
                  case measure => simp [intOf]; omega
      · have hji : ¬ (j : Int) < T.length := by omega
        have hpl : ps.length ≤ 2001 := by have := hG.out.few; omega
        have hBj := Lib.hid (hB4.out.trans (hb.out.mono hB4.out.size))
        obtain ⟨pp, pc', hv⟩ := owns_len hP.out
        by_cases hps : ps.length = 0
        · rw [hps] at hv
          subst hv
          go_wp2_with (go_at_call 10; (with_reducible refine (hAw.out _ hBj.out).mono ?_); rintro e w8 ⟨rfl, b8⟩)
          all_goals
            go_ret
            exact ⟨rfl, hBj.out.trans (b8.mono hBj.out.size)⟩
        clear hv
        obtain ⟨gp, cp, rfl⟩ := owns_form hP.out (Nat.pos_of_ne_zero hps)
        obtain ⟨ix, hix, hixl⟩ : ∃ ix : Nat, wh.tmod (ps.length : Int) = (ix : Int) ∧ ix < ps.length := by
          have h0 : 0 < (ps.length : Int) := by omega
          refine ⟨(wh.tmod (ps.length : Int)).toNat, ?_, ?_⟩
          · rw [Int.toNat_of_nonneg]
            rw [Int.tmod_eq_emod_of_nonneg hwh.1]; exact Int.emod_nonneg _ (by omega)
          · rw [Int.tmod_eq_emod_of_nonneg hwh.1]
            have h1 := Int.emod_lt_of_pos wh h0
            have h2 := Int.emod_nonneg wh (by omega : (ps.length : Int) ≠ 0)
            omega
        have hixi : (ix : Int) < (ps.length : Int) := by omega
        have hlz : ((ps.length : Int) == 0) = false := by rw [beq_eq_false_iff_ne]; omega
        have hlz' : ¬ (ps.length : Int) = 0 := by omega
        have hpr := hG.out.pairs ps[ix] (List.getElem_mem hixl)
        obtain ⟨v0, v1⟩ := pairCells_at ps ix hixl
        have z0 := owns_cell hP.out _ _ v0
        have z1 := owns_cell hP.out _ _ v1
        generalize ps[ix] = x at hpr z0 z1
        clear v0 v1
        obtain ⟨xa, xb⟩ := x
        have hless := Lib.hid (pb_less hpr)
        obtain ⟨q1, q2, -⟩ := hpr
        replace q1 : xa < xb := q1
        replace q2 : xb < txt.length := q2
        replace z0 : wr.cell? ⟨gp, ix * 2, none⟩ = some (.int .i64 xa) := z0
        replace z1 : wr.cell? ⟨gp, ix * 2 + 1, none⟩ = some (.int .i64 xb) := z1
        replace hps := Lib.hid hps
        have hBk := Lib.hid (hBj.out.alloc hBj.out.size (.cells #[.int .i64 xa, .int .i64 xb] 47))
        have hFk := Lib.hid (fun W (h : Below (wr.alloc (.cells #[.int .i64 xa, .int .i64 xb] 47)).heap.size (wr.alloc (.cells #[.int .i64 xa, .int .i64 xb] 47)) W) => hF4.out W ((hb.out.alloc hb.out.size _).trans (h.mono (hb.out.alloc hb.out.size (.cells #[.int .i64 xa, .int .i64 xb] 47)).size)))
        have hYk := heap_alloc_new wr (.cells #[.int .i64 xa, .int .i64 xb] 47)
        go_upto_region 28 with (fail)
        generalize World.alloc wr _ = wk at hBk hFk hYk ⊢
        generalize wr.heap.size = Y at hYk ⊢
        clear z0 z1
        have z0 : wk.cell? ⟨Y, 0, none⟩ = some (.int .i64 xa) := by rw [World.cell?, hYk]; rfl
        have z1 : wk.cell? ⟨Y, 1, none⟩ = some (.int .i64 xb) := by rw [World.cell?, hYk]; rfl
        clear hYk hP hO hb hG hix hixi hlz hlz' hixl
        have r1 : ¬ (xb : Int) ≤ (xa : Int) := by omega
        have r2 : ¬ (txt.length : Int) ≤ (xb : Int) := by omega
        have r3 : (xa : Int) ≤ (txt.length : Int) := by omega
        have r4 : (xa : Int) + 1 ≤ (xb : Int) := by omega
        have r5 : (xb : Int) ≤ (txt.length : Int) := by omega
        have r6 : (xb : Int) + 1 ≤ (txt.length : Int) := by omega
        go_upto_region 30 with (fail)
        have hRdl := Lib.hid (hRR.out (txt.take xa ++ 32 :: ((txt.drop (xa + 1)).take (xb - (xa + 1)) ++ 32 :: txt.drop (xb + 1))) (by
          have h := hless.out
          rw [List.drop_take] at h
          simp only [pb_app, pb_cons, show ¬ ((32 : UInt8) = 40) from by decide, if_false]
          omega) (by simp only [List.length_append, List.length_cons, List.length_take, List.length_drop]; omega))
        have hy3 : (y0 : Int) ≤ 2 := by have := hz4.out; omega
        clear hRR hless
        go_quiet (fail)
        go_upto_region 32 with (go_at_call 25; (with_reducible refine (hRdl.out _).mono ?_); rintro e w9 ⟨b9, y9, q9, d9, po, er, rfl, hk9, hs9⟩)
        have bA := (below_undrew b9).alloc (below_undrew b9).size (.cells (five5 y9 q9 d9) 24)
        have hB9 := Lib.hid (hBk.out.trans (bA.mono hBk.out.size))
        have hF9 := hFk.out _ bA
        have hG9 := five (heap_alloc_new w9 (.cells (five5 y9 q9 d9) 24))
        have hY9 := hk9.low ((Below.refl _ _).alloc (Nat.le_refl _) (.cells (five5 y9 q9 d9) 24))
        unfold five5 at bA hB9 hF9 hG9 hY9
        clear z0 z1 hk9 b9 bA hBk hFk r1 r2 r3 r4 r5 r6 hRdl
        generalize World.alloc w9 _ = w10 at hB9 hF9 hG9 hY9 ⊢
        obtain ⟨c0, c1, c2, c3, c4⟩ := hF9
        obtain ⟨e0, e1, e2, e3, e4⟩ := hG9
        by_cases her : er = 0
        · have heb : ((er : Int) != 0) = false := by rw [bne_eq_false_iff_eq]; omega
          have hSm2 := hSm.out y9 q9 d9 w10 hB9.out hY9
          rw [hs9 her] at hSm2
          replace hSm2 := Lib.hid hSm2
          clear hY9 hs9
          replace her := Lib.hid her
          go_wp2_with (first | (go_at_call 18; (with_reducible refine (hSm2.out).mono ?_); rintro e w11 ⟨rfl, b11⟩; have hB11 := Lib.hid (hB9.out.trans (b11.mono hB9.out.size))) | (go_at_call 10; (with_reducible refine (hAw.out _ hB11.out).mono ?_); rintro e w12 ⟨rfl, b12⟩))
          all_goals
            go_ret
            exact ⟨rfl, hB11.out.trans (b12.mono hB11.out.size)⟩
        · have heb : ((er : Int) != 0) = true := by rw [bne_iff_ne]; omega
          clear hY9 hs9
          replace her := Lib.hid her
          go_wp2_with (go_at_call 10; (with_reducible refine (hAw.out _ hB9.out).mono ?_); rintro e w12 ⟨rfl, b12⟩)
          all_goals
            go_ret
            exact ⟨rfl, hB9.out.trans (b12.mono hB9.out.size)⟩
end Go.Proofs.YtplbfmcgddnkeaaGreatDoor
end
