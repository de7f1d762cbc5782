/- Joined: Rd, Stl, Aw9. -/
import Derived.Test.YtplbfmcgddnkeaaGreatDoorS31
import Derived.Test.YtplbfmcgddnkeaaGreatDoorS08
import Derived.Test.YtplbfmcgddnkeaaGreatDoorS15
set_option linter.unusedVariables false
set_option linter.unusedSimpArgs false
section
set_option maxHeartbeats 4000000
set_option maxRecDepth 100000
namespace Go.Proofs.YtplbfmcgddnkeaaGreatDoor
open Go.RowKit
def wrK (k : Nat) (t : Syn) : List UInt8 := if k = 0 then wprog t else if k = 1 then wrc t else if k = 2 then wrs t else wrf t
def okK (k : Nat) (t : Syn) : Bool := if k = 0 then progB t else if k = 1 then okc t else if k = 2 then oks t else okf t
def rdK (k : Nat) : List Tok → Rd := if k = 0 then progR else if k = 1 then rdO .cond else if k = 2 then rdO .scheme else rdO .formula
def prK (k : Nat) (t : Syn) : List UInt8 × Nat := printO (okK k t) (wrK k t) (parseO (wrK k t) (rdK k))
theorem printO_len (ok : Bool) (s : List UInt8) (o : Out Syn) : (printO ok s o).1.length ≤ 65536 := by
  unfold printO
  split
  · split
    · simp
    · split
      · dsimp only; omega
      · simp
  · simp
theorem printO_to {ok : Bool} {s s' : List UInt8} {r : List Tok → Rd} (h : ok = true → s = s') : printO ok s (parseO s r) = printO ok s' (parseO s' r) := by
  cases ok with
  | false => rfl
  | true => rw [h rfl]
def PResN (w : World) (o : Out Syn) (e : Ending) (w' : World) : Prop := Below w.heap.size w w' ∧ ∃ (y : Syn) (q : Option Addr) (d : Nat) (z : Int), e = .returned (.tuple #[nodeV y q d, .int .i64 z, .int .i64 (errO o)]) ∧ (∀ W, Keep (Fr w.heap.size) w' W → KidR W y.kids (.slice q y.kids.length d)) ∧ (∀ t j, o = .ok t j → y = t)
theorem PRes.norm {w w' : World} {o : Out Syn} {e : Ending} (h : PRes w o e w') : PResN w o e w' := by
  obtain ⟨hb, h⟩ := h
  refine ⟨hb, ?_⟩
  cases o with
  | none => exact h.elim
  | err p x => exact ⟨synNil, none, 0, p, h, fun _ _ => .nil, fun t j e => by cases e⟩
  | ok t i =>
    obtain ⟨v, h1, kv, rfl, hk⟩ := h
    obtain ⟨p, c, rfl, -⟩ := kids_form hk
    exact ⟨t, p, c, 0, h1, fun W hW => KidR.of_kids _ (Nat.lt_succ_self _) (hk.keep hW fun _ h => h), fun t' j e => by cases e; rfl⟩
def RdPost (w : World) (r : List UInt8 × Nat) (o : Out Syn) (e : Ending) (w' : World) : Prop := Below w.heap.size w w' ∧ ∃ (y : Syn) (q : Option Addr) (d : Nat), e = .returned (.tuple #[nodeV y q d, .string ⟨r.1.toArray⟩, .int .i64 r.2, .int .i64 (errO o)]) ∧ KidR w' y.kids (.slice q y.kids.length d) ∧ (∀ t j, o = .ok t j → y = t)
theorem read1_any (t : Syn) (hM : Mod t) (q : Option Addr) (d : Nat) (kd : Int) (hkd : kd.tmod 4 = 1) (w : World) (hE : PEnv w) (ht : TabW w) (hks : KidR w t.kids (.slice q t.kids.length d)) (hbig : okK 1 t = true → (wrK 1 t).length ≤ 140737488355328) :
    Calls Tryz.prog 17 #[nodeV t q d, .int .u8 kd] w (RdPost w (prK 1 t) (parseO (prK 1 t).1 (rdK 1))) := by
  have hP : ∀ W, Below w.heap.size w W → Calls Tryz.prog 11 #[nodeV t q d] W (TPost W (prK 1 t)) := fun W hb => pCond_any t hM q d W (hE.below hb) (tab_low ht hb) (hks.low hb) (fun h => ⟨hbig h, wrc_ne h⟩)
  have hR : ∀ W, Below w.heap.size w W → Calls Tryz.prog 20 #[.string ⟨(prK 1 t).1.toArray⟩] W (PResN W (parseO (prK 1 t).1 (rdK 1))) := fun W hb => (fullCond_any _ W (by have := printO_len (okK 1 t) (wrK 1 t) (parseO (wrK 1 t) (rdK 1)); unfold prK; omega) (hE.below hb)).mono fun e w' h => h.norm
  generalize parseO (prK 1 t).1 (rdK 1) = o at *
  generalize prK 1 t = res at *
  obtain ⟨txt, er⟩ := res
  obtain ⟨kk, tx, n, a, ks⟩ := t
  replace hP : ∀ W, Below w.heap.size w W → Calls Tryz.prog 11 #[(Value.agg #[.int .i64 kk, .string ⟨List.toArray tx⟩, .int .i64 n, .int .i64 a, .slice q ks.length d])] W fun e w' => e = .returned (.tuple #[.string ⟨txt.toArray⟩, .int .i64 er]) ∧ Below W.heap.size W w' := hP
  show Calls Tryz.prog 17 #[(Value.agg #[.int .i64 kk, .string ⟨List.toArray tx⟩, .int .i64 n, .int .i64 a, .slice q ks.length d]), .int .u8 kd] w _
  clear hbig hks hM hE ht
  generalize ks.length = m at *
  replace hP := Lib.hid hP
  replace hR := Lib.hid hR
  have hB := (boxed_below w kk tx n a q m d)
  have hC := five (boxed_new w kk tx n a q m d)
  have hs : (boxed w kk tx n a q m d).heap.size = w.heap.size + 1 := World.size_alloc ..
  have hB1 := hB.alloc (by rw [hs]; omega) zSyn
  have hC1 := five_low hC ((Below.refl _ _).alloc (Nat.le_refl _) zSyn)
  have hS1 : SynBlk ((boxed w kk tx n a q m d).alloc zSyn) (w.heap.size + 1) := by rw [← hs]; exact SynBlk.new
  have hs1 : ((boxed w kk tx n a q m d).alloc zSyn).heap.size = w.heap.size + 1 + 1 := by rw [World.size_alloc, hs]
  have hB2 := hB1.alloc (by rw [hs1]; omega) zSyn
  have hC2 := five_low hC1 ((Below.refl _ _).alloc (Nat.le_refl _) zSyn)
  have hS2 : SynBlk (((boxed w kk tx n a q m d).alloc zSyn).alloc zSyn) (w.heap.size + 1) := hS1.alloc
  have hT2 : SynBlk (((boxed w kk tx n a q m d).alloc zSyn).alloc zSyn) (w.heap.size + 1 + 1) := by rw [← hs1]; exact SynBlk.new
  clear hB hC hs hB1 hC1 hS1 hs1
  unfold boxed zSyn at hB2 hC2 hS2 hT2
  go_enter Tryz.func17, Tryz.ntmps17
  go_upto_region 4 with (fail)
  generalize World.alloc (World.alloc (World.alloc w _) _) _ = w1 at hB2 hC2 hS2 hT2 ⊢
  have hl1 : w.heap.size ≤ w.heap.size + 1 := Nat.le_succ _
  have hl2 : w.heap.size ≤ w.heap.size + 1 + 1 := by omega
  have hl3 : w.heap.size + 1 ≠ w.heap.size + 1 + 1 := by omega
  have hl4 : w.heap.size + 1 ≤ w.heap.size + 1 + 1 := by omega
  generalize hA1 : w.heap.size + 1 = A1 at *
  generalize hA2 : A1 + 1 = A2 at *
  clear hA1 hA2
  obtain ⟨c0, c1, c2, c3, c4⟩ := hC2
  replace hB2 := Lib.hid hB2
  replace hS2 := Lib.hid hS2
  replace hT2 := Lib.hid hT2
  go_upto_region 16 with (first | (go_at_call 11; (with_reducible refine (hP.out _ hB2.out).mono ?_); rintro e x2 ⟨rfl, b2⟩; have hB3 := Lib.hid (hB2.out.trans (b2.mono hB2.out.size))) | (go_at_call 20; (with_reducible refine (hR.out _ hB3.out).mono ?_); rintro e x3 ⟨b3, y, q3, d3, z3, rfl, hk3, hy3⟩; have hB4 := hB3.out.trans (b3.mono hB3.out.size); have hT4 := syn_low (syn_low hT2.out b2) b3; have hS4 := syn_low (syn_low hS2.out b2) b3))
  have hn2 : A2 < x2.heap.size := by have := b2.size; obtain ⟨_, _, _, _, _, _, h⟩ := hT2.out; have := (Array.getElem?_eq_some_iff.1 h).1; omega
  have hF := five_set hT4 (.int .i64 y.kind) (.string ⟨y.text.toArray⟩) (.int .i64 y.num) (.int .i64 y.pos) (.slice q3 y.kids.length d3)
  have hK := (Keep.refl (S := Fr x2.heap.size) x3).setSyn (B := A2) (fun h => Nat.not_le_of_lt hn2 h) (.int .i64 y.kind) (.string ⟨y.text.toArray⟩) (.int .i64 y.num) (.int .i64 y.pos) (.slice q3 y.kids.length d3)
  have hB5 := below_setSyn hB4 hl2 (.int .i64 y.kind) (.string ⟨y.text.toArray⟩) (.int .i64 y.num) (.int .i64 y.pos) (.slice q3 y.kids.length d3)
  have hS5 : SynBlk (setSyn x3 A2 (.int .i64 y.kind) (.string ⟨y.text.toArray⟩) (.int .i64 y.num) (.int .i64 y.pos) (.slice q3 y.kids.length d3)) A1 := by
    obtain ⟨a', b', c', d', e', T', h⟩ := hS4
    exact ⟨a', b', c', d', e', T', (heap_setSyn_ne hl3).trans h⟩
  clear hB4 hT4 hS4 hT2 hS2 c0 c1 c2 c3 c4 hP hR
  generalize setSyn x3 A2 _ _ _ _ _ = x4 at hF hK hB5 hS5 ⊢
  obtain ⟨c0, c1, c2, c3, c4⟩ := hF
  have hF6 := five_set hS5 (.int .i64 y.kind) (.string ⟨y.text.toArray⟩) (.int .i64 y.num) (.int .i64 y.pos) (.slice q3 y.kids.length d3)
  have hK6 := hK.setSyn (B := A1) (fun h => Nat.not_le_of_lt (Nat.lt_of_le_of_lt (by omega) hn2) h) (.int .i64 y.kind) (.string ⟨y.text.toArray⟩) (.int .i64 y.num) (.int .i64 y.pos) (.slice q3 y.kids.length d3)
  have hB6 := Lib.hid (below_setSyn hB5 hl1 (.int .i64 y.kind) (.string ⟨y.text.toArray⟩) (.int .i64 y.num) (.int .i64 y.pos) (.slice q3 y.kids.length d3))
  replace hK6 := Lib.hid hK6
  obtain ⟨d0, d1, d2, d3', d4⟩ := hF6
  go_wp2_with fail
  all_goals
    refine bodyPost_ret (v := .tuple #[nodeV y q3 d3, .string ⟨txt.toArray⟩, .int .i64 er, .int .i64 (errO o)]) (by simp [results, Tryz.results17, go_sem, d0, d1, d2, d3', d4]) rfl ⟨hB6.out, y, q3, d3, rfl, hk3 _ hK6.out, hy3⟩
theorem read2_any (t : Syn) (hM : Mod t) (q : Option Addr) (d : Nat) (kd : Int) (hkd : kd.tmod 4 = 2) (w : World) (hE : PEnv w) (ht : TabW w) (hks : KidR w t.kids (.slice q t.kids.length d)) (hbig : okK 2 t = true → (wrK 2 t).length ≤ 140737488355328) :
    Calls Tryz.prog 17 #[nodeV t q d, .int .u8 kd] w (RdPost w (prK 2 t) (parseO (prK 2 t).1 (rdK 2))) := by
  have hP : ∀ W, Below w.heap.size w W → Calls Tryz.prog 13 #[nodeV t q d] W (TPost W (prK 2 t)) := fun W hb => pScheme_any t hM q d W (hE.below hb) (tab_low ht hb) (hks.low hb) (fun h => ⟨hbig h, wrs_ne h⟩)
  have hR : ∀ W, Below w.heap.size w W → Calls Tryz.prog 21 #[.string ⟨(prK 2 t).1.toArray⟩] W (PResN W (parseO (prK 2 t).1 (rdK 2))) := fun W hb => (fullScheme_any _ W (by have := printO_len (okK 2 t) (wrK 2 t) (parseO (wrK 2 t) (rdK 2)); unfold prK; omega) (hE.below hb)).mono fun e w' h => h.norm
  generalize parseO (prK 2 t).1 (rdK 2) = o at *
  generalize prK 2 t = res at *
  obtain ⟨txt, er⟩ := res
  obtain ⟨kk, tx, n, a, ks⟩ := t
  replace hP : ∀ W, Below w.heap.size w W → Calls Tryz.prog 13 #[(Value.agg #[.int .i64 kk, .string ⟨List.toArray tx⟩, .int .i64 n, .int .i64 a, .slice q ks.length d])] W fun e w' => e = .returned (.tuple #[.string ⟨txt.toArray⟩, .int .i64 er]) ∧ Below W.heap.size W w' := hP
  show Calls Tryz.prog 17 #[(Value.agg #[.int .i64 kk, .string ⟨List.toArray tx⟩, .int .i64 n, .int .i64 a, .slice q ks.length d]), .int .u8 kd] w _
  clear hbig hks hM hE ht
  generalize ks.length = m at *
  replace hP := Lib.hid hP
  replace hR := Lib.hid hR
  have hB := (boxed_below w kk tx n a q m d)
  have hC := five (boxed_new w kk tx n a q m d)
  have hs : (boxed w kk tx n a q m d).heap.size = w.heap.size + 1 := World.size_alloc ..
  have hB1 := hB.alloc (by rw [hs]; omega) zSyn
  have hC1 := five_low hC ((Below.refl _ _).alloc (Nat.le_refl _) zSyn)
  have hS1 : SynBlk ((boxed w kk tx n a q m d).alloc zSyn) (w.heap.size + 1) := by rw [← hs]; exact SynBlk.new
  have hs1 : ((boxed w kk tx n a q m d).alloc zSyn).heap.size = w.heap.size + 1 + 1 := by rw [World.size_alloc, hs]
  have hB2 := hB1.alloc (by rw [hs1]; omega) zSyn
  have hC2 := five_low hC1 ((Below.refl _ _).alloc (Nat.le_refl _) zSyn)
  have hS2 : SynBlk (((boxed w kk tx n a q m d).alloc zSyn).alloc zSyn) (w.heap.size + 1) := hS1.alloc
  have hT2 : SynBlk (((boxed w kk tx n a q m d).alloc zSyn).alloc zSyn) (w.heap.size + 1 + 1) := by rw [← hs1]; exact SynBlk.new
  clear hB hC hs hB1 hC1 hS1 hs1
  unfold boxed zSyn at hB2 hC2 hS2 hT2
  go_enter Tryz.func17, Tryz.ntmps17
  go_upto_region 4 with (fail)
  generalize World.alloc (World.alloc (World.alloc w _) _) _ = w1 at hB2 hC2 hS2 hT2 ⊢
  have hl1 : w.heap.size ≤ w.heap.size + 1 := Nat.le_succ _
  have hl2 : w.heap.size ≤ w.heap.size + 1 + 1 := by omega
  have hl3 : w.heap.size + 1 ≠ w.heap.size + 1 + 1 := by omega
  have hl4 : w.heap.size + 1 ≤ w.heap.size + 1 + 1 := by omega
  generalize hA1 : w.heap.size + 1 = A1 at *
  generalize hA2 : A1 + 1 = A2 at *
  clear hA1 hA2
  obtain ⟨c0, c1, c2, c3, c4⟩ := hC2
  replace hB2 := Lib.hid hB2
  replace hS2 := Lib.hid hS2
  replace hT2 := Lib.hid hT2
  go_upto_region 16 with (first | (go_at_call 13; (with_reducible refine (hP.out _ hB2.out).mono ?_); rintro e x2 ⟨rfl, b2⟩; have hB3 := Lib.hid (hB2.out.trans (b2.mono hB2.out.size))) | (go_at_call 21; (with_reducible refine (hR.out _ hB3.out).mono ?_); rintro e x3 ⟨b3, y, q3, d3, z3, rfl, hk3, hy3⟩; have hB4 := hB3.out.trans (b3.mono hB3.out.size); have hT4 := syn_low (syn_low hT2.out b2) b3; have hS4 := syn_low (syn_low hS2.out b2) b3))
  have hn2 : A2 < x2.heap.size := by have := b2.size; obtain ⟨_, _, _, _, _, _, h⟩ := hT2.out; have := (Array.getElem?_eq_some_iff.1 h).1; omega
  have hF := five_set hT4 (.int .i64 y.kind) (.string ⟨y.text.toArray⟩) (.int .i64 y.num) (.int .i64 y.pos) (.slice q3 y.kids.length d3)
  have hK := (Keep.refl (S := Fr x2.heap.size) x3).setSyn (B := A2) (fun h => Nat.not_le_of_lt hn2 h) (.int .i64 y.kind) (.string ⟨y.text.toArray⟩) (.int .i64 y.num) (.int .i64 y.pos) (.slice q3 y.kids.length d3)
  have hB5 := below_setSyn hB4 hl2 (.int .i64 y.kind) (.string ⟨y.text.toArray⟩) (.int .i64 y.num) (.int .i64 y.pos) (.slice q3 y.kids.length d3)
  have hS5 : SynBlk (setSyn x3 A2 (.int .i64 y.kind) (.string ⟨y.text.toArray⟩) (.int .i64 y.num) (.int .i64 y.pos) (.slice q3 y.kids.length d3)) A1 := by
    obtain ⟨a', b', c', d', e', T', h⟩ := hS4
    exact ⟨a', b', c', d', e', T', (heap_setSyn_ne hl3).trans h⟩
  clear hB4 hT4 hS4 hT2 hS2 c0 c1 c2 c3 c4 hP hR
  generalize setSyn x3 A2 _ _ _ _ _ = x4 at hF hK hB5 hS5 ⊢
  obtain ⟨c0, c1, c2, c3, c4⟩ := hF
  have hF6 := five_set hS5 (.int .i64 y.kind) (.string ⟨y.text.toArray⟩) (.int .i64 y.num) (.int .i64 y.pos) (.slice q3 y.kids.length d3)
  have hK6 := hK.setSyn (B := A1) (fun h => Nat.not_le_of_lt (Nat.lt_of_le_of_lt (by omega) hn2) h) (.int .i64 y.kind) (.string ⟨y.text.toArray⟩) (.int .i64 y.num) (.int .i64 y.pos) (.slice q3 y.kids.length d3)
  have hB6 := Lib.hid (below_setSyn hB5 hl1 (.int .i64 y.kind) (.string ⟨y.text.toArray⟩) (.int .i64 y.num) (.int .i64 y.pos) (.slice q3 y.kids.length d3))
  replace hK6 := Lib.hid hK6
  obtain ⟨d0, d1, d2, d3', d4⟩ := hF6
  go_wp2_with fail
  all_goals
    refine bodyPost_ret (v := .tuple #[nodeV y q3 d3, .string ⟨txt.toArray⟩, .int .i64 er, .int .i64 (errO o)]) (by simp [results, Tryz.results17, go_sem, d0, d1, d2, d3', d4]) rfl ⟨hB6.out, y, q3, d3, rfl, hk3 _ hK6.out, hy3⟩
theorem pFor_any (t : Syn) (hM : Mod t) (q : Option Addr) (d : Nat) (w : World) (hE : PEnv w) (ht : TabW w) (hks : KidR w t.kids (.slice q t.kids.length d)) (hbig : okf t = true → (wrf t).length ≤ 140737488355328) :
    Calls Tryz.prog 15 #[nodeV t q d] w (TPost w (prK 3 t)) := by
  have h := pFormula_any t hM q d w hE ht hks (fun h => ⟨by rw [wrN2_f h]; exact hbig h, by rw [wrN2_f h]; exact wrf_ne h⟩)
  rw [printO_to (ok := okP 2 t) (s := wrN 2 t) (s' := wrf t) (fun h => wrN2_f h)] at h
  exact h
theorem read3_any (t : Syn) (hM : Mod t) (q : Option Addr) (d : Nat) (kd : Int) (hkd : kd.tmod 4 = 3) (w : World) (hE : PEnv w) (ht : TabW w) (hks : KidR w t.kids (.slice q t.kids.length d)) (hbig : okK 3 t = true → (wrK 3 t).length ≤ 140737488355328) :
    Calls Tryz.prog 17 #[nodeV t q d, .int .u8 kd] w (RdPost w (prK 3 t) (parseO (prK 3 t).1 (rdK 3))) := by
  have hP : ∀ W, Below w.heap.size w W → Calls Tryz.prog 15 #[nodeV t q d] W (TPost W (prK 3 t)) := fun W hb => pFor_any t hM q d W (hE.below hb) (tab_low ht hb) (hks.low hb) hbig
  have hR : ∀ W, Below w.heap.size w W → Calls Tryz.prog 22 #[.string ⟨(prK 3 t).1.toArray⟩] W (PResN W (parseO (prK 3 t).1 (rdK 3))) := fun W hb => (fullFormula_any _ W (by have := printO_len (okK 3 t) (wrK 3 t) (parseO (wrK 3 t) (rdK 3)); unfold prK; omega) (hE.below hb)).mono fun e w' h => h.norm
  generalize parseO (prK 3 t).1 (rdK 3) = o at *
  generalize prK 3 t = res at *
  obtain ⟨txt, er⟩ := res
  obtain ⟨kk, tx, n, a, ks⟩ := t
  replace hP : ∀ W, Below w.heap.size w W → Calls Tryz.prog 15 #[(Value.agg #[.int .i64 kk, .string ⟨List.toArray tx⟩, .int .i64 n, .int .i64 a, .slice q ks.length d])] W fun e w' => e = .returned (.tuple #[.string ⟨txt.toArray⟩, .int .i64 er]) ∧ Below W.heap.size W w' := hP
  show Calls Tryz.prog 17 #[(Value.agg #[.int .i64 kk, .string ⟨List.toArray tx⟩, .int .i64 n, .int .i64 a, .slice q ks.length d]), .int .u8 kd] w _
  clear hbig hks hM hE ht
  generalize ks.length = m at *
  replace hP := Lib.hid hP
  replace hR := Lib.hid hR
  have hB := (boxed_below w kk tx n a q m d)
  have hC := five (boxed_new w kk tx n a q m d)
  have hs : (boxed w kk tx n a q m d).heap.size = w.heap.size + 1 := World.size_alloc ..
  have hB1 := hB.alloc (by rw [hs]; omega) zSyn
  have hC1 := five_low hC ((Below.refl _ _).alloc (Nat.le_refl _) zSyn)
  have hS1 : SynBlk ((boxed w kk tx n a q m d).alloc zSyn) (w.heap.size + 1) := by rw [← hs]; exact SynBlk.new
  have hs1 : ((boxed w kk tx n a q m d).alloc zSyn).heap.size = w.heap.size + 1 + 1 := by rw [World.size_alloc, hs]
  have hB2 := hB1.alloc (by rw [hs1]; omega) zSyn
  have hC2 := five_low hC1 ((Below.refl _ _).alloc (Nat.le_refl _) zSyn)
  have hS2 : SynBlk (((boxed w kk tx n a q m d).alloc zSyn).alloc zSyn) (w.heap.size + 1) := hS1.alloc
  have hT2 : SynBlk (((boxed w kk tx n a q m d).alloc zSyn).alloc zSyn) (w.heap.size + 1 + 1) := by rw [← hs1]; exact SynBlk.new
  clear hB hC hs hB1 hC1 hS1 hs1
  unfold boxed zSyn at hB2 hC2 hS2 hT2
  go_enter Tryz.func17, Tryz.ntmps17
  go_upto_region 4 with (fail)
  generalize World.alloc (World.alloc (World.alloc w _) _) _ = w1 at hB2 hC2 hS2 hT2 ⊢
  have hl1 : w.heap.size ≤ w.heap.size + 1 := Nat.le_succ _
  have hl2 : w.heap.size ≤ w.heap.size + 1 + 1 := by omega
  have hl3 : w.heap.size + 1 ≠ w.heap.size + 1 + 1 := by omega
  have hl4 : w.heap.size + 1 ≤ w.heap.size + 1 + 1 := by omega
  generalize hA1 : w.heap.size + 1 = A1 at *
  generalize hA2 : A1 + 1 = A2 at *
  clear hA1 hA2
  obtain ⟨c0, c1, c2, c3, c4⟩ := hC2
  replace hB2 := Lib.hid hB2
  replace hS2 := Lib.hid hS2
  replace hT2 := Lib.hid hT2
  go_upto_region 16 with (first | (go_at_call 15; (with_reducible refine (hP.out _ hB2.out).mono ?_); rintro e x2 ⟨rfl, b2⟩; have hB3 := Lib.hid (hB2.out.trans (b2.mono hB2.out.size))) | (go_at_call 22; (with_reducible refine (hR.out _ hB3.out).mono ?_); rintro e x3 ⟨b3, y, q3, d3, z3, rfl, hk3, hy3⟩; have hB4 := hB3.out.trans (b3.mono hB3.out.size); have hT4 := syn_low (syn_low hT2.out b2) b3; have hS4 := syn_low (syn_low hS2.out b2) b3))
  have hn2 : A2 < x2.heap.size := by have := b2.size; obtain ⟨_, _, _, _, _, _, h⟩ := hT2.out; have := (Array.getElem?_eq_some_iff.1 h).1; omega
  have hF := five_set hT4 (.int .i64 y.kind) (.string ⟨y.text.toArray⟩) (.int .i64 y.num) (.int .i64 y.pos) (.slice q3 y.kids.length d3)
  have hK := (Keep.refl (S := Fr x2.heap.size) x3).setSyn (B := A2) (fun h => Nat.not_le_of_lt hn2 h) (.int .i64 y.kind) (.string ⟨y.text.toArray⟩) (.int .i64 y.num) (.int .i64 y.pos) (.slice q3 y.kids.length d3)
  have hB5 := below_setSyn hB4 hl2 (.int .i64 y.kind) (.string ⟨y.text.toArray⟩) (.int .i64 y.num) (.int .i64 y.pos) (.slice q3 y.kids.length d3)
  have hS5 : SynBlk (setSyn x3 A2 (.int .i64 y.kind) (.string ⟨y.text.toArray⟩) (.int .i64 y.num) (.int .i64 y.pos) (.slice q3 y.kids.length d3)) A1 := by
    obtain ⟨a', b', c', d', e', T', h⟩ := hS4
    exact ⟨a', b', c', d', e', T', (heap_setSyn_ne hl3).trans h⟩
  clear hB4 hT4 hS4 hT2 hS2 c0 c1 c2 c3 c4 hP hR
  generalize setSyn x3 A2 _ _ _ _ _ = x4 at hF hK hB5 hS5 ⊢
  obtain ⟨c0, c1, c2, c3, c4⟩ := hF
  have hF6 := five_set hS5 (.int .i64 y.kind) (.string ⟨y.text.toArray⟩) (.int .i64 y.num) (.int .i64 y.pos) (.slice q3 y.kids.length d3)
  have hK6 := hK.setSyn (B := A1) (fun h => Nat.not_le_of_lt (Nat.lt_of_le_of_lt (by omega) hn2) h) (.int .i64 y.kind) (.string ⟨y.text.toArray⟩) (.int .i64 y.num) (.int .i64 y.pos) (.slice q3 y.kids.length d3)
  have hB6 := Lib.hid (below_setSyn hB5 hl1 (.int .i64 y.kind) (.string ⟨y.text.toArray⟩) (.int .i64 y.num) (.int .i64 y.pos) (.slice q3 y.kids.length d3))
  replace hK6 := Lib.hid hK6
  obtain ⟨d0, d1, d2, d3', d4⟩ := hF6
  go_wp2_with fail
  all_goals
    refine bodyPost_ret (v := .tuple #[nodeV y q3 d3, .string ⟨txt.toArray⟩, .int .i64 er, .int .i64 (errO o)]) (by simp [results, Tryz.results17, go_sem, d0, d1, d2, d3', d4]) rfl ⟨hB6.out, y, q3, d3, rfl, hk3 _ hK6.out, hy3⟩
end Go.Proofs.YtplbfmcgddnkeaaGreatDoor
end
section
set_option maxHeartbeats 4000000
set_option maxRecDepth 100000
namespace Go.Proofs.YtplbfmcgddnkeaaGreatDoor
theorem rdK_w (k : Nat) {C : Nat} (T : List Tok) (hA : TT C T) : WR C (okK k) (rdK k T) := by
  unfold okK rdK
  split
  · exact program_w hA
  · split
    · exact rd_w hA _ .cond
    · split
      · exact rd_w hA _ .scheme
      · exact rd_w hA _ .formula
theorem rdK_g (k : Nat) {n : Int} (T : List Tok) (hA : Asc n T) : GR n T (rdK k T) := by
  unfold rdK
  split
  · exact program_g hA
  · split
    · exact rd_g hA _ .cond
    · split
      · exact rd_g hA _ .scheme
      · exact rd_g hA _ .formula
theorem wrK_len {k : Nat} {t : Syn} (h : okK k t = true) : (wrK k t).length ≤ mass t := by
  unfold okK at h
  unfold wrK
  split
  · rename_i e; rw [if_pos e] at h; exact wprog_len h
  · rename_i e; rw [if_neg e] at h
    split
    · rename_i e; rw [if_pos e] at h; exact wrc_len _ t (Nat.lt_succ_self _) h
    · rename_i e; rw [if_neg e] at h
      split
      · rename_i e; rw [if_pos e] at h; exact wrs_len _ t (Nat.lt_succ_self _) h
      · rename_i e; rw [if_neg e] at h; exact wrf_len _ t (Nat.lt_succ_self _) h
theorem parsedK {k : Nat} {s : List UInt8} {t : Syn} {j : Nat} (h : parseO s (rdK k) = .ok t j) (hs : s.length ≤ 900) : okK k t = true ∧ Mod t ∧ (wrK k t).length ≤ 140737488355328 := by
  obtain ⟨h1, h2⟩ := parse_mass (fun T hA => rdK_w k T hA) (fun T hA => rdK_g k T hA) h
  have h3 : (100 + 2 * s.length) * s.length ≤ 1900 * 900 := Nat.mul_le_mul (by omega) hs
  have h4 := wrK_len h1
  exact ⟨h1, mod_of_mass _ t (Nat.lt_succ_self _) (by omega), by omega⟩
abbrev sC : List UInt8 := [40, 97, 108, 108, 32, 112, 58, 40, 105, 110, 40, 112, 41, 61, 48, 41, 41, 32, 111, 114, 32, 40, 49, 60, 50, 32, 97, 110, 100, 32, 110, 111, 116, 40, 120, 61, 49, 41, 41]
abbrev tC : List UInt8 := [40, 97, 108, 108, 32, 112, 58, 32, 105, 110, 40, 112, 41, 32, 61, 32, 48, 41, 32, 111, 114, 32, 49, 32, 60, 32, 50, 32, 97, 110, 100, 32, 110, 111, 116, 32, 120, 32, 61, 32, 49]
abbrev sS : List UInt8 := [40, 97, 32, 111, 114, 32, 98, 41, 116, 104, 101, 110, 32, 50, 32, 99, 114, 97, 115, 104, 40, 32, 49, 32, 41]
abbrev tS : List UInt8 := [40, 97, 32, 111, 114, 32, 98, 41, 32, 116, 104, 101, 110, 32, 50, 32, 99, 114, 97, 115, 104, 40, 49, 41]
abbrev sF : List UInt8 := [69, 40, 123, 48, 44, 49, 125, 44, 116, 114, 117, 101, 41, 117, 110, 116, 105, 108, 32, 67, 40, 101, 118, 101, 114, 121, 111, 110, 101, 44, 97, 116, 40, 50, 41, 41]
abbrev tF : List UInt8 := [69, 40, 123, 48, 44, 32, 49, 125, 44, 32, 116, 114, 117, 101, 41, 32, 117, 110, 116, 105, 108, 32, 67, 40, 101, 118, 101, 114, 121, 111, 110, 101, 44, 32, 97, 116, 40, 50, 41, 41]
theorem awk_of {k : Nat} {s t : List UInt8} (h : (match parseO s (rdK k) with | .ok c _ => decide (prK k c = (t, 0)) | _ => false) = true) : ∃ c j, parseO s (rdK k) = .ok c j ∧ prK k c = (t, 0) := by
  cases ho : parseO s (rdK k) with
  | none => rw [ho] at h; cases h
  | err p e => rw [ho] at h; cases h
  | ok c j => rw [ho] at h; exact ⟨c, j, rfl, of_decide_eq_true h⟩
theorem awk_c : ∃ c j, parseO sC (rdK 1) = .ok c j ∧ prK 1 c = (tC, 0) := awk_of (by kernel_rfl)
theorem awk_s : ∃ c j, parseO sS (rdK 2) = .ok c j ∧ prK 2 c = (tS, 0) := awk_of (by kernel_rfl)
theorem awk_f : ∃ c j, parseO sF (rdK 3) = .ok c j ∧ prK 3 c = (tF, 0) := awk_of (by kernel_rfl)
theorem awk_n : prK 1 (.mk 8 [97, 108, 108] 0 0 []) = ([], 3) := by kernel_rfl
end Go.Proofs.YtplbfmcgddnkeaaGreatDoor
end
section
set_option maxHeartbeats 4000000
set_option maxRecDepth 100000
namespace Go.Proofs.YtplbfmcgddnkeaaGreatDoor
open Go.RowKit
theorem parsed1_any {s : List UInt8} {t : Syn} {j : Nat} (h : parseO s (rdK 1) = .ok t j) (hs : s.length ≤ 90000) (W : World) (hE : PEnv W) :
    Calls Tryz.prog 20 #[.string ⟨s.toArray⟩] W fun e w' => Below W.heap.size W w' ∧ ∃ (q : Option Addr) (d : Nat) (z : Int), e = .returned (.tuple #[nodeV t q d, .int .i64 z, .int .i64 0]) ∧ ∀ W', Keep (Fr W.heap.size) w' W' → KidR W' t.kids (.slice q t.kids.length d) := by
  refine (fullCond_any s W hs hE).mono ?_
  rintro e w' hp
  obtain ⟨hb, y, q, d, z, he, hk, hy⟩ := hp.norm
  change parseO s (rdK 1) = _ at h
  change ∀ t j, parseO s (rdK 1) = _ → _ at hy
  obtain rfl := hy t j h
  refine ⟨hb, q, d, z, ?_, hk⟩
  rw [he]
  change Ending.returned (.tuple #[nodeV y q d, .int .i64 z, .int .i64 (errO (parseO s (rdK 1)))]) = _
  rw [h]
  rfl
theorem parsed2_any {s : List UInt8} {t : Syn} {j : Nat} (h : parseO s (rdK 2) = .ok t j) (hs : s.length ≤ 90000) (W : World) (hE : PEnv W) :
    Calls Tryz.prog 21 #[.string ⟨s.toArray⟩] W fun e w' => Below W.heap.size W w' ∧ ∃ (q : Option Addr) (d : Nat) (z : Int), e = .returned (.tuple #[nodeV t q d, .int .i64 z, .int .i64 0]) ∧ ∀ W', Keep (Fr W.heap.size) w' W' → KidR W' t.kids (.slice q t.kids.length d) := by
  refine (fullScheme_any s W hs hE).mono ?_
  rintro e w' hp
  obtain ⟨hb, y, q, d, z, he, hk, hy⟩ := hp.norm
  change parseO s (rdK 2) = _ at h
  change ∀ t j, parseO s (rdK 2) = _ → _ at hy
  obtain rfl := hy t j h
  refine ⟨hb, q, d, z, ?_, hk⟩
  rw [he]
  change Ending.returned (.tuple #[nodeV y q d, .int .i64 z, .int .i64 (errO (parseO s (rdK 2)))]) = _
  rw [h]
  rfl
theorem parsed3_any {s : List UInt8} {t : Syn} {j : Nat} (h : parseO s (rdK 3) = .ok t j) (hs : s.length ≤ 90000) (W : World) (hE : PEnv W) :
    Calls Tryz.prog 22 #[.string ⟨s.toArray⟩] W fun e w' => Below W.heap.size W w' ∧ ∃ (q : Option Addr) (d : Nat) (z : Int), e = .returned (.tuple #[nodeV t q d, .int .i64 z, .int .i64 0]) ∧ ∀ W', Keep (Fr W.heap.size) w' W' → KidR W' t.kids (.slice q t.kids.length d) := by
  refine (fullFormula_any s W hs hE).mono ?_
  rintro e w' hp
  obtain ⟨hb, y, q, d, z, he, hk, hy⟩ := hp.norm
  change parseO s (rdK 3) = _ at h
  change ∀ t j, parseO s (rdK 3) = _ → _ at hy
  obtain rfl := hy t j h
  refine ⟨hb, q, d, z, ?_, hk⟩
  rw [he]
  change Ending.returned (.tuple #[nodeV y q d, .int .i64 z, .int .i64 (errO (parseO s (rdK 3)))]) = _
  rw [h]
  rfl
theorem awake09_any (w : World) (hE : PEnv w) (ht : TabW w) : Calls Tryz.prog 10 #[] w (VPost w true) := by
  obtain ⟨cc, jcc, hocc, hpcc⟩ := awk_c
  have hRcc := fun W (hE : PEnv W) => parsed1_any hocc (by decide) W hE
  obtain ⟨-, hMcc, hlcc⟩ := parsedK hocc (by decide)
  have hWcc : ∀ W q d, PEnv W → TabW W → KidR W cc.kids (.slice q cc.kids.length d) → Calls Tryz.prog 11 #[nodeV cc q d] W (TPost W (prK 1 cc)) := fun W q d hE ht hk => pCond_any cc hMcc q d W hE ht hk (fun h => ⟨hlcc, wrc_ne h⟩)
  rw [hpcc] at hWcc
  clear hocc hpcc hMcc hlcc
  replace hRcc := Lib.hid hRcc
  replace hWcc := Lib.hid hWcc
  obtain ⟨ss, jss, hoss, hpss⟩ := awk_s
  have hRss := fun W (hE : PEnv W) => parsed2_any hoss (by decide) W hE
  obtain ⟨-, hMss, hlss⟩ := parsedK hoss (by decide)
  have hWss : ∀ W q d, PEnv W → TabW W → KidR W ss.kids (.slice q ss.kids.length d) → Calls Tryz.prog 13 #[nodeV ss q d] W (TPost W (prK 2 ss)) := fun W q d hE ht hk => pScheme_any ss hMss q d W hE ht hk (fun h => ⟨hlss, wrs_ne h⟩)
  rw [hpss] at hWss
  clear hoss hpss hMss hlss
  replace hRss := Lib.hid hRss
  replace hWss := Lib.hid hWss
  obtain ⟨ff, jff, hoff, hpff⟩ := awk_f
  have hRff := fun W (hE : PEnv W) => parsed3_any hoff (by decide) W hE
  obtain ⟨-, hMff, hlff⟩ := parsedK hoff (by decide)
  have hWff : ∀ W q d, PEnv W → TabW W → KidR W ff.kids (.slice q ff.kids.length d) → Calls Tryz.prog 15 #[nodeV ff q d] W (TPost W (prK 3 ff)) := fun W q d hE ht hk => pFor_any ff hMff q d W hE ht hk (fun h => hlff)
  rw [hpff] at hWff
  clear hoff hpff hMff hlff
  replace hRff := Lib.hid hRff
  replace hWff := Lib.hid hWff
  have hWn : ∀ W, PEnv W → TabW W → Calls Tryz.prog 11 #[(Value.agg #[.int .i64 8, .string ⟨List.toArray [97,108,108]⟩, .int .i64 0, .int .i64 0, .slice none 0 0])] W (TPost W ([], 3)) := fun W hE ht => by
    have h := pCond_any (.mk 8 [97, 108, 108] 0 0 []) (.mk (by decide) (by decide) (fun z h => (List.not_mem_nil h).elim)) none 0 W hE ht .nil (fun h => absurd h (show ¬ (okP 0 (.mk 8 [97, 108, 108] 0 0 []) = true) from by rw [show okP 0 (.mk 8 [97, 108, 108] 0 0 []) = false by kernel_rfl]; decide))
    rw [show printO (okP 0 (.mk 8 [97, 108, 108] 0 0 [])) (wrN 0 (.mk 8 [97, 108, 108] 0 0 [])) (parseO (wrN 0 (.mk 8 [97, 108, 108] 0 0 [])) (rdO .cond)) = ([], 3) from awk_n] at h
    exact h
  replace hWn := Lib.hid hWn
  have E := Lib.hid hE
  have Tb := Lib.hid ht
  have B := Lib.hid (Below.refl w.heap.size w)
  clear hE ht
  go_enter Tryz.func10, Tryz.ntmps10
  go_upto_region 2 with (first | (go_at_call 20; (with_reducible refine (hRcc.out _ E.out).mono ?_); rintro e w1 ⟨b1, qcc, dcc, zcc, rfl, hk1⟩; have bA := (Below.refl w1.heap.size w1).alloc (Nat.le_refl _) (.cells #[.int .i64 cc.kind, .string ⟨cc.text.toArray⟩, .int .i64 cc.num, .int .i64 cc.pos, .slice qcc cc.kids.length dcc] 24); have hn := heap_alloc_new w1 (.cells #[.int .i64 cc.kind, .string ⟨cc.text.toArray⟩, .int .i64 cc.num, .int .i64 cc.pos, .slice qcc cc.kids.length dcc] 24)))
  have bs := b1.trans (bA.mono b1.size)
  replace E := Lib.hid (E.out.below bs)
  replace Tb := Lib.hid (tab_low Tb.out bs)
  replace B := Lib.hid (B.out.trans (bs.mono B.out.size))
  have hkcc := Lib.hid ((hk1 _ (Keep.refl _ _)).low bA)
  have hncc := Lib.hid (five hn)
  clear bA b1 hk1 hn
  generalize World.alloc w1 _ = vcc at E Tb B hkcc hncc bs ⊢
  generalize w1.heap.size = Ncc at hncc ⊢
  clear bs
  go_upto_region 3 with (first | (go_at_call 21; (with_reducible refine (hRss.out _ E.out).mono ?_); rintro e w1 ⟨b1, qss, dss, zss, rfl, hk1⟩; have bA := (Below.refl w1.heap.size w1).alloc (Nat.le_refl _) (.cells #[.int .i64 ss.kind, .string ⟨ss.text.toArray⟩, .int .i64 ss.num, .int .i64 ss.pos, .slice qss ss.kids.length dss] 24); have hn := heap_alloc_new w1 (.cells #[.int .i64 ss.kind, .string ⟨ss.text.toArray⟩, .int .i64 ss.num, .int .i64 ss.pos, .slice qss ss.kids.length dss] 24)))
  have bs := b1.trans (bA.mono b1.size)
  replace E := Lib.hid (E.out.below bs)
  replace Tb := Lib.hid (tab_low Tb.out bs)
  replace B := Lib.hid (B.out.trans (bs.mono B.out.size))
  have hkss := Lib.hid ((hk1 _ (Keep.refl _ _)).low bA)
  have hnss := Lib.hid (five hn)
  clear bA b1 hk1 hn
  generalize World.alloc w1 _ = vss at E Tb B hkss hnss bs ⊢
  generalize w1.heap.size = Nss at hnss ⊢
  replace hkcc := Lib.hid (hkcc.out.low bs)
  replace hncc := Lib.hid (five_low hncc.out bs)
  clear bs
  go_upto_region 4 with (first | (go_at_call 22; (with_reducible refine (hRff.out _ E.out).mono ?_); rintro e w1 ⟨b1, qff, dff, zff, rfl, hk1⟩; have bA := (Below.refl w1.heap.size w1).alloc (Nat.le_refl _) (.cells #[.int .i64 ff.kind, .string ⟨ff.text.toArray⟩, .int .i64 ff.num, .int .i64 ff.pos, .slice qff ff.kids.length dff] 24); have hn := heap_alloc_new w1 (.cells #[.int .i64 ff.kind, .string ⟨ff.text.toArray⟩, .int .i64 ff.num, .int .i64 ff.pos, .slice qff ff.kids.length dff] 24)))
  have bs := b1.trans (bA.mono b1.size)
  replace E := Lib.hid (E.out.below bs)
  replace Tb := Lib.hid (tab_low Tb.out bs)
  replace B := Lib.hid (B.out.trans (bs.mono B.out.size))
  have hkff := Lib.hid ((hk1 _ (Keep.refl _ _)).low bA)
  have hnff := Lib.hid (five hn)
  clear bA b1 hk1 hn
  generalize World.alloc w1 _ = vff at E Tb B hkff hnff bs ⊢
  generalize w1.heap.size = Nff at hnff ⊢
  replace hkcc := Lib.hid (hkcc.out.low bs)
  replace hncc := Lib.hid (five_low hncc.out bs)
  replace hkss := Lib.hid (hkss.out.low bs)
  replace hnss := Lib.hid (five_low hnss.out bs)
  clear bs
  obtain ⟨y0, y1, y2, y3, y4⟩ := hncc.out
  go_upto_region 5 with (first | (go_at_call 11; (with_reducible refine (hWcc.out _ _ _ E.out Tb.out hkcc.out).mono ?_); rintro e w1 ⟨rfl, bs⟩))
  clear y0 y1 y2 y3 y4 hkcc hncc
  replace E := Lib.hid (E.out.below bs)
  replace Tb := Lib.hid (tab_low Tb.out bs)
  replace B := Lib.hid (B.out.trans (bs.mono B.out.size))
  replace hkss := Lib.hid (hkss.out.low bs)
  replace hnss := Lib.hid (five_low hnss.out bs)
  replace hkff := Lib.hid (hkff.out.low bs)
  replace hnff := Lib.hid (five_low hnff.out bs)
  clear bs
  obtain ⟨y0, y1, y2, y3, y4⟩ := hnss.out
  go_upto_region 6 with (first | (go_at_call 13; (with_reducible refine (hWss.out _ _ _ E.out Tb.out hkss.out).mono ?_); rintro e w1 ⟨rfl, bs⟩))
  clear y0 y1 y2 y3 y4 hkss hnss
  replace E := Lib.hid (E.out.below bs)
  replace Tb := Lib.hid (tab_low Tb.out bs)
  replace B := Lib.hid (B.out.trans (bs.mono B.out.size))
  replace hkff := Lib.hid (hkff.out.low bs)
  replace hnff := Lib.hid (five_low hnff.out bs)
  clear bs
  obtain ⟨y0, y1, y2, y3, y4⟩ := hnff.out
  go_upto_region 7 with (first | (go_at_call 15; (with_reducible refine (hWff.out _ _ _ E.out Tb.out hkff.out).mono ?_); rintro e w1 ⟨rfl, bs⟩))
  clear y0 y1 y2 y3 y4 hkff hnff
  replace E := Lib.hid (E.out.below bs)
  replace Tb := Lib.hid (tab_low Tb.out bs)
  replace B := Lib.hid (B.out.trans (bs.mono B.out.size))
  clear bs
  go_wp2_with (first | (go_at_call 11; (with_reducible refine (hWn.out _ E.out Tb.out).mono ?_); rintro e w2 ⟨rfl, b2⟩))
  all_goals
    go_ret
    exact ⟨rfl, B.out.trans (b2.mono B.out.size)⟩
end Go.Proofs.YtplbfmcgddnkeaaGreatDoor
end
