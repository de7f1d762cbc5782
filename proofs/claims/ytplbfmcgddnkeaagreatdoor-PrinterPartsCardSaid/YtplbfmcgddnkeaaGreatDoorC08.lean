/- Walks of functions, and plain facts. -/
import Derived.Test.YtplbfmcgddnkeaaGreatDoorProg
import Derived.Deep.RegionHeld3
import Derived.RegionTactic
import Derived.RegionDies
import Derived.Lib.AtoiAll
import Derived.Test.YtplbfmcgddnkeaaGreatDoorC03
import Derived.Test.YtplbfmcgddnkeaaGreatDoorC01
set_option linter.unusedVariables false
set_option linter.unusedSimpArgs false
set_option maxHeartbeats 20000000
set_option maxRecDepth 100000
namespace Go.Proofs.YtplbfmcgddnkeaaGreatDoor
open Go.RowKit
def Q65 (w : World) (g : Nat) (ts : List Tok) : Prop := g < w.heap.size ∧ ∀ k (h : k < ts.length), w.cell? ⟨g, k * 3, none⟩ = some (.int .i64 ts[k].kind) ∧ w.cell? ⟨g, k * 3 + 1, none⟩ = some (.string ⟨ts[k].text.toArray⟩) ∧ w.cell? ⟨g, k * 3 + 2, none⟩ = some (.int .i64 ts[k].pos)
structure Only (p : Nat) (w w' : World) : Prop where
 os : w'.os = w.os
 tape : w'.tape = w.tape
 output : w'.output = w.output
 size : w.heap.size ≤ w'.heap.size
 block : ∀ k, k < w.heap.size → k ≠ p → w'.heap[k]? = w.heap[k]?
theorem Only.refl (p : Nat) (w : World) : Only p w w := ⟨rfl, rfl, rfl, Nat.le_refl _, fun _ _ _ => rfl⟩
theorem Only.trans {p : Nat} {a b c : World} (h : Only p a b) (k : Only p b c) : Only p a c :=
 ⟨k.os.trans h.os, k.tape.trans h.tape, k.output.trans h.output, Nat.le_trans h.size k.size, fun i hi hp => (k.block i (Nat.lt_of_lt_of_le hi h.size) hp).trans (h.block i hi hp)⟩
theorem Only.of_below {p : Nat} {a b : World} (h : Below a.heap.size a b) : Only p a b := ⟨h.os, h.tape, h.output, h.size, fun k hk _ => h.block k hk⟩
theorem Only.set (p o : Nat) (w : World) (v : Value) : Only p w (w.setCell ⟨p, o, none⟩ v) := ⟨rfl, rfl, rfl, by simp [World.setCell], fun k _ hk => Below.heap_setCell _ _ _ _ hk⟩
theorem Only.alloc (p : Nat) (w : World) (o : Obj) : Only p w (w.alloc o) := Only.of_below ((Below.refl _ _).alloc (Nat.le_refl _) o)
theorem Only.drew (p n : Nat) (w : World) : Only p w (w.drewN n) := Only.of_below ((Below.refl _ _).trans ⟨rfl, rfl, rfl, Nat.le_refl _, fun _ _ => rfl⟩)
theorem Only.own {p B o : Nat} {w w' : World} (h : Only p w w') (hB : w.heap.size ≤ B) (v : Value) : Only p w (w'.setCell ⟨B, o, none⟩ v) :=
 ⟨h.os, h.tape, h.output, by simpa [World.setCell] using h.size, fun k hk hp => by rw [Below.heap_setCell _ _ _ _ (by show k ≠ B; omega)]; exact h.block k hk hp⟩
theorem Only.below {p : Nat} {w w' : World} {B : Nat} (h : Only p w w') (hp : B ≤ p) (hB : B ≤ w.heap.size) : Below B w w' := ⟨h.os, h.tape, h.output, h.size, fun k hk => h.block k (by omega) (by omega)⟩
theorem Q65.only {p : Nat} {w w' : World} {g : Nat} {ts : List Tok} (h : Q65 w g ts) (hb : Only p w w') (hg : g ≠ p) : Q65 w' g ts :=
 ⟨Nat.lt_of_lt_of_le h.1 hb.size, fun k hk => by
  have hc : ∀ o, w'.cell? ⟨g, o, none⟩ = w.cell? ⟨g, o, none⟩ := fun o => by simp only [World.cell?, hb.block g h.1 hg]
  rw [hc, hc, hc]; exact h.2 k hk⟩
theorem Q0p.block {w w' : World} (h : Q0p w) (hb : w'.heap[4]? = w.heap[4]?) : Q0p w' := by
 unfold Q0p Lib.TabIs World.var? at *
 rw [show Tryz.prog.globalNamed "strings.asciiSpace" = some 4 from by kernel_rfl] at *
 simp only [Option.bind_some] at *
 rw [hb]; exact h
theorem Q0p.lt {w : World} (h : Q0p w) : 4 < w.heap.size := by
 unfold Q0p Lib.TabIs World.var? at h
 rw [show Tryz.prog.globalNamed "strings.asciiSpace" = some 4 from by kernel_rfl] at h
 simp only [Option.bind_some] at h
 rcases Nat.lt_or_ge 4 w.heap.size with h' | h'
 ·exact h'
 ·simp [Array.getElem?_eq_none h'] at h
def Qd8 (T : List Tok) : Prop := ∀ t ∈ T, t.kind = 1 → t.text ≠ [] ∧ (∀ c ∈ t.text, Q9 c.toNat = true) ∧ dv 0 t.text ≤ 1048576 ∧ t.text.length ≤ 1000000
structure PS (pb tb c : Nat) (T : List Tok) (i lv : Nat) (w : World) : Prop where
 blk : w.heap[pb]? = some (.cells #[.slice (some ⟨tb, 0, none⟩) T.length c, .int .i64 i, .int .i64 lv] 93 (0, 0))
 toks : Q65 w tb T
 ne : tb ≠ pb
 lt : i < T.length
 size : T.length ≤ 100000
 level : lv ≤ 1000
 nums : Qd8 T
 space : Q0p w
 gne : 4 < pb
 last : (tk T (T.length - 1)).kind = 3
theorem PS.pos {pb tb c i lv : Nat} {T : List Tok} {w : World} (h : PS pb tb c T i lv w) : pb < w.heap.size := (Array.getElem?_eq_some_iff.1 h.blk).1
theorem PS.below {pb tb c i lv : Nat} {T : List Tok} {w w' : World} (h : PS pb tb c T i lv w) (hb : Below w.heap.size w w') : PS pb tb c T i lv w' :=
 ⟨by rw [hb.block _ h.pos]; exact h.blk, h.toks.only (Only.of_below (p := pb) hb) h.ne, h.ne, h.lt, h.size, h.level, h.nums, h.space.below hb, h.gne, h.last⟩
theorem PS.alloc {pb tb c i lv : Nat} {T : List Tok} {w : World} (h : PS pb tb c T i lv w) (o : Obj) : PS pb tb c T i lv (w.alloc o) := h.below ((Below.refl _ _).alloc (Nat.le_refl _) o)
theorem PS.cells {pb tb c i lv : Nat} {T : List Tok} {w : World} (h : PS pb tb c T i lv w) :
  w.cell? ⟨pb, 0, none⟩ = some (.slice (some ⟨tb, 0, none⟩) T.length c) ∧ w.cell? ⟨pb, 1, none⟩ = some (.int .i64 i) ∧ w.cell? ⟨pb, 2, none⟩ = some (.int .i64 lv) := by
 refine ⟨?_, ?_, ?_⟩ <;> (rw [World.cell?, h.blk]; rfl)
theorem PS.frozen {pb tb c i lv : Nat} {T : List Tok} {w : World} (h : PS pb tb c T i lv w) (o : Nat) : w.frozen? ⟨pb, o, none⟩ = false := Lib.frozen_of_heap h.blk o
theorem PS.tok {pb tb c i lv : Nat} {T : List Tok} {w : World} (h : PS pb tb c T i lv w) :
  w.cell? ⟨tb, i * 3, none⟩ = some (.int .i64 (tk T i).kind) ∧ w.cell? ⟨tb, i * 3 + 1, none⟩ = some (.string ⟨(tk T i).text.toArray⟩) ∧ w.cell? ⟨tb, i * 3 + 2, none⟩ = some (.int .i64 (tk T i).pos) := by
 have := h.toks.2 i h.lt
 have e : tk T i = T[i]'h.lt := by unfold tk; rw [List.getD_eq_getElem?_getD, List.getElem?_eq_getElem h.lt]; rfl
 rw [e]; exact this
theorem PS.own {pb tb c i lv : Nat} {T : List Tok} {w : World} {B o : Nat} {v : Value} (h : PS pb tb c T i lv w) (h1' : pb < B) (h2' : tb < B) : PS pb tb c T i lv (w.setCell ⟨B, o, none⟩ v) := by
 have e : ∀ k, k ≠ B → (w.setCell ⟨B, o, none⟩ v).heap[k]? = w.heap[k]? := fun k hk => Below.heap_setCell _ _ _ _ hk
 have h1 : B ≠ pb := by omega
 have h2 : B ≠ tb := by omega
 refine ⟨by rw [e _ (Ne.symm h1)]; exact h.blk, ⟨by simpa [World.setCell] using h.toks.1, fun k hk => ?_⟩, h.ne, h.lt, h.size, h.level, h.nums, h.space.block (e _ (by have := h.gne; omega)), h.gne, h.last⟩
 have hc : ∀ q, (w.setCell ⟨B, o, none⟩ v).cell? ⟨tb, q, none⟩ = w.cell? ⟨tb, q, none⟩ := fun q => by simp only [World.cell?, e tb (Ne.symm h2)]
 rw [hc, hc, hc]; exact h.toks.2 k hk
theorem PS.setP {pb tb c i lv o : Nat} {T : List Tok} {w : World} {v : Value} {i' lv' : Nat} (h : PS pb tb c T i lv w)
  (hv : (#[Value.slice (some ⟨tb, 0, none⟩) T.length c, .int .i64 i, .int .i64 lv].setIfInBounds o v) = #[.slice (some ⟨tb, 0, none⟩) T.length c, .int .i64 i', .int .i64 lv']) (hi : i' < T.length) (hl : lv' ≤ 1000) : PS pb tb c T i' lv' (w.setCell ⟨pb, o, none⟩ v) := by
 have e : ∀ k, k ≠ pb → (w.setCell ⟨pb, o, none⟩ v).heap[k]? = w.heap[k]? := fun k hk => Below.heap_setCell _ _ _ _ hk
 refine ⟨?_, ⟨by simpa [World.setCell] using h.toks.1, fun k hk => ?_⟩, h.ne, hi, h.size, hl, h.nums, h.space.block (e _ (by have := h.gne; omega)), h.gne, h.last⟩
 ·rw [← hv]
  simp [World.setCell, Array.getElem?_modify, h.blk]
 ·have hc : ∀ q, (w.setCell ⟨pb, o, none⟩ v).cell? ⟨tb, q, none⟩ = w.cell? ⟨tb, q, none⟩ := fun q => by simp only [World.cell?, e tb h.ne]
  rw [hc, hc, hc]; exact h.toks.2 k hk
theorem PS.drew {pb tb c i lv : Nat} {T : List Tok} {w : World} (h : PS pb tb c T i lv w) (n : Nat) : PS pb tb c T i lv (w.drewN n) := h.below ((Below.refl _ _).trans ⟨rfl, rfl, rfl, Nat.le_refl _, fun _ _ => rfl⟩)
def Q39 (pos : Int) (e : Nat) : List PanicEntry := [{ v := .iface 91 (.agg #[.int .i64 pos, .int .i64 e]), recovered := false }]
theorem Q6e (pb tb c i lv : Nat) (T : List Tok) (w : World) (e : Nat) (h : PS pb tb c T i lv w) :
  Calls Tryz.prog 65 #[.pointer (some ⟨pb, 0, none⟩), .int .i64 e] w fun r w' => r = .panicked (Q39 (tk T i).pos e) ∧ Only pb w w' := by
 obtain ⟨c0, c1, c2⟩ := h.cells
 obtain ⟨t0, t1, t2⟩ := h.tok
 have hlt := h.lt
 have hsz := h.size
 have hi0 : (0 : Int) ≤ (i : Int) := by omega
 have hi1 : (i : Int) < (T.length : Int) := by omega
 clear t0 t1
 generalize (tk T i).pos = ps at *
 replace h := qh h
 go_enter Tryz.func65, Tryz.ntmps65
 go_wp2_with fail
 go_region_dies
 all_goals exact ⟨rfl, rfl, Only.of_below ((Below.refl _ _).drew)⟩
def Q4w (t : Tok) : Value := .agg #[.int .i64 t.kind, .string ⟨t.text.toArray⟩, .int .i64 t.pos]
theorem Q8x (pb tb c i lv : Nat) (T : List Tok) (w : World) (h : PS pb tb c T i lv w) :
  Calls Tryz.prog 74 #[.pointer (some ⟨pb, 0, none⟩)] w fun r w' => r = .returned (Q4w (tk T i)) ∧ (PS pb tb c T (nx T i) lv w' ∧ Only pb w w') := by
 obtain ⟨c0, c1, c2⟩ := h.cells
 obtain ⟨t0, t1, t2⟩ := h.tok
 have hlt := h.lt
 have hsz := h.size
 have hpos := h.pos
 have htb := h.toks.1
 have f1 := h.frozen 1
 have hi0 : (0 : Int) ≤ (i : Int) := by omega
 have hi1 : (i : Int) < (T.length : Int) := by omega
 generalize htk : tk T i = t at *
 obtain ⟨kd, tx, ps⟩ := t
 simp only at t0 t1 t2
 replace h := qh h
 by_cases hn : i + 1 < T.length
 ·have hb : decide ((i : Int) < (T.length : Int) - 1) = true := by rw [decide_eq_true_eq]; omega
  go_enter Tryz.func74, Tryz.ntmps74
  go_wp2_with fail
  go_region
  go_wp2_with fail
  go_quiet (fail)
  go_wp2_with fail
  refine bodyPost_ret (v := .agg #[.int .i64 kd, .string ⟨tx.toArray⟩, .int .i64 ps]) (by simp [results, Tryz.results74, go_sem]) rfl ⟨rfl, ?_, ?_⟩
  ·rw [show nx T i = i + 1 from if_pos hn]
   refine PS.own (PS.own (PS.own (PS.setP (((h.out.alloc _).alloc _).drew _) (i' := i + 1) (lv' := lv) (by simp) hn h.out.level) ?_ ?_) ?_ ?_) ?_ ?_ <;> omega
  ·refine Only.own (Only.own (Only.own (Only.trans ((Only.alloc _ _ _).trans ((Only.alloc _ _ _).trans (Only.drew _ _ _))) (Only.set _ _ _ _)) (Nat.le_refl _) _) (Nat.le_refl _) _) (Nat.le_refl _) _
 ·have hb : decide ((i : Int) < (T.length : Int) - 1) = false := by rw [decide_eq_false_iff_not]; omega
  go_enter Tryz.func74, Tryz.ntmps74
  go_wp2_with fail
  go_region
  go_wp2_with fail
  go_quiet (fail)
  go_wp2_with fail
  refine bodyPost_ret (v := .agg #[.int .i64 kd, .string ⟨tx.toArray⟩, .int .i64 ps]) (by simp [results, Tryz.results74, go_sem]) rfl ⟨rfl, ?_, ?_⟩
  ·rw [show nx T i = i from if_neg hn]
   refine PS.own (PS.own (PS.own (((h.out.alloc _).alloc _).drew _) ?_ ?_) ?_ ?_) ?_ ?_ <;> omega
  ·refine Only.own (Only.own (Only.own ((Only.alloc _ _ _).trans ((Only.alloc _ _ _).trans (Only.drew _ _ _))) (Nat.le_refl _) _) (Nat.le_refl _) _) (Nat.le_refl _) _
def WAt (w : World) (b : Nat) (ws : List (List UInt8)) : Prop := b < w.heap.size ∧ ∀ j (h : j < ws.length), w.cell? ⟨b, j, none⟩ = some (.string ⟨ws[j].toArray⟩)
theorem WAt.below {w w' : World} {b : Nat} {ws : List (List UInt8)} (h : WAt w b ws) (hb : Below w.heap.size w w') : WAt w' b ws :=
 ⟨by have := hb.size; have := h.1; omega, fun j hj => by rw [hb.cell h.1]; exact h.2 j hj⟩
theorem Qt8 (ws : List (List UInt8)) (x : List UInt8) : Lib.containsS ((ws.map fun l => (⟨l.toArray⟩ : ByteArray)).take ws.length) ⟨x.toArray⟩ = ws.contains x := by
 rw [List.take_of_length_le (by simp), Bool.eq_iff_iff, Lib.containsS_iff, List.contains_iff_mem, List.mem_map]
 constructor
 ·rintro ⟨l, hl, e⟩
  have : l = x := by simpa using e
  rw [← this]; exact hl
 ·intro h; exact ⟨x, h, rfl⟩
theorem Qcv (pb tb c i lv : Nat) (T : List Tok) (w : World) (wb : Nat) (ws : List (List UInt8)) (h : PS pb tb c T i lv w) (hw : WAt w wb ws) (hl : ws.length ≤ 100) :
  Calls Tryz.prog 73 #[.pointer (some ⟨pb, 0, none⟩), .slice (some ⟨wb, 0, none⟩) ws.length ws.length] w fun r w' => r = .returned (.bool (isW T ws i)) ∧ (PS pb tb c T i lv w' ∧ Only pb w w') := by
 obtain ⟨c0, c1, c2⟩ := h.cells
 obtain ⟨t0, t1, t2⟩ := h.tok
 have hlt := h.lt
 have hsz := h.size
 have hpos := h.pos
 have htb := h.toks.1
 have hi0 : (0 : Int) ≤ (i : Int) := by omega
 have hi1 : (i : Int) < (T.length : Int) := by omega
 have hr : isW T ws i = ((decide ((tk T i).kind = 2) || decide ((tk T i).kind = 0)) && ws.contains (tk T i).text) := rfl
 generalize tk T i = t at *
 obtain ⟨kd, tx, ps⟩ := t
 simp only at t0 t1 t2 hr
 have hC : ∀ W, WAt W wb ws → Calls Tryz.prog 128 #[.slice (some ⟨wb, 0, none⟩) ws.length ws.length, .string ⟨tx.toArray⟩] W fun e w' => e = .returned (.bool (ws.contains tx)) ∧ w' = W := by
  intro W hW
  have := Tryz.slices_Contains_string wb 0 ws.length ws.length (ws.map fun l => (⟨l.toArray⟩ : ByteArray)) ⟨tx.toArray⟩ W (by simp) (by omega) (fun j hj => by
   have hj' : j < ws.length := by simpa using hj
   rw [Nat.zero_add, hW.2 j hj']
   simp [List.getD, hj'])
  rw [Qt8] at this
  exact this
 replace h := qh h
 replace hw := qh hw
 generalize ws.contains tx = cb at *
 replace hC := qh hC
 have hfin : PS pb tb c T i lv ((w.alloc (.cells #[.int .i64 kd, .string ⟨tx.toArray⟩, .int .i64 ps] 45)).drew) := (h.out.alloc _).drew 1
 have hfo : Only pb w ((w.alloc (.cells #[.int .i64 kd, .string ⟨tx.toArray⟩, .int .i64 ps] 45)).drew) := (Only.alloc _ _ _).trans (Only.drew _ 1 _)
 have hfw : WAt ((w.alloc (.cells #[.int .i64 kd, .string ⟨tx.toArray⟩, .int .i64 ps] 45)).drew) wb ws := hw.out.below (((Below.refl _ _).alloc (Nat.le_refl _) _).trans ((Below.refl _ _).drew))
 replace hfin := qh hfin
 replace hfo := qh hfo
 replace hfw := qh hfw
 by_cases h2 : kd = 2
 ·have b2 : (kd == 2) = true := by rw [beq_iff_eq]; exact h2
  rw [decide_eq_true h2, Bool.true_or, Bool.true_and] at hr
  replace hr := qh hr
  replace h2 := qh h2
  go_enter Tryz.func73, Tryz.ntmps73
  go_wp2_with fail
  go_region
  go_wp2_with fail
  (with_reducible refine (hC.out _ hfw.out).mono ?_); rintro e w1 ⟨rfl, rfl⟩
  go_wp2_with fail
  go_ret
  exact ⟨Q4 hr.out.symm, hfin.out, hfo.out⟩
 ·have b2 : (kd == 2) = false := by rw [beq_eq_false_iff_ne]; exact h2
  rw [decide_eq_false h2, Bool.false_or] at hr
  replace h2 := qh h2
  by_cases h0 : kd = 0
  ·have b0 : (kd == 0) = true := by rw [beq_iff_eq]; exact h0
   rw [decide_eq_true h0, Bool.true_and] at hr
   replace hr := qh hr
   replace h0 := qh h0
   go_enter Tryz.func73, Tryz.ntmps73
   go_wp2_with fail
   go_region
   go_wp2_with fail
   (with_reducible refine (hC.out _ hfw.out).mono ?_); rintro e w1 ⟨rfl, rfl⟩
   go_wp2_with fail
   go_ret
   exact ⟨Q4 hr.out.symm, hfin.out, hfo.out⟩
  ·have b0 : (kd == 0) = false := by rw [beq_eq_false_iff_ne]; exact h0
   rw [decide_eq_false h0, Bool.false_and] at hr
   replace hr := qh hr
   replace h0 := qh h0
   go_enter Tryz.func73, Tryz.ntmps73
   go_wp2_with fail
   go_region
   go_wp2_with fail
   go_ret
   exact ⟨Q4 hr.out.symm, hfin.out, hfo.out⟩
end Go.Proofs.YtplbfmcgddnkeaaGreatDoor
namespace Go.Proofs.YtplbfmcgddnkeaaGreatDoor
theorem Qsk (l : List UInt8) (hd : ∀ c ∈ l, Q9 c.toNat = true) : ∀ acc, dv acc l ≤ 1048576 → Lib.parseUint10 acc l = .ok (dv acc l) := by
 induction l with
 | nil => intro acc _; rfl
 | cons c r ih =>
  intro acc h
  have hc := hd c (by simp)
  simp only [Q9, Bool.and_eq_true, decide_eq_true_eq] at hc
  rw [Q4k] at h
  have h1 := Q87 r (10 * acc + (c.toNat - 48))
  have h2 : 0 < 10 ^ r.length := Nat.pow_pos (by omega)
  have h3 : 10 * acc + (c.toNat - 48) ≤ (10 * acc + (c.toNat - 48)) * 10 ^ r.length := Nat.le_mul_of_pos_right _ h2
  rw [Lib.parseUint10, if_pos (by omega), if_neg (by omega), if_neg (by omega), Nat.mul_comm acc 10, ih (fun c h => hd c (by simp [h])) _ h, Q4k]
theorem Qsu {l : List UInt8} (h0 : l ≠ []) (hd : ∀ c ∈ l, Q9 c.toNat = true) (h : dv 0 l ≤ 1048576) : Lib.atoiAll l = .ok ((dv 0 l : Nat) : Int) := by
 match l, h0 with
 | c :: r, _ =>
  have hc := hd c (by simp)
  simp only [Q9, Bool.and_eq_true, decide_eq_true_eq] at hc
  have hp : Lib.parseMag (c :: r) = .ok (dv 0 (c :: r)) := by
   unfold Lib.parseMag
   rw [if_neg (by simp)]
   exact Qsk _ hd 0 h
  have h43 : ¬ (c.toNat = 43 ∨ c.toNat = 45) := by omega
  have h45 : ¬ c.toNat = 45 := by omega
  simp only [Lib.atoiAll, if_neg h43, hp]
  rw [if_neg (by omega), if_neg (by omega), if_neg h45]
end Go.Proofs.YtplbfmcgddnkeaaGreatDoor
namespace Go.Proofs.YtplbfmcgddnkeaaGreatDoor
open Go.RowKit
mutual
inductive SynAt (S : Nat → Prop) (w : World) : Syn → List Value → Prop
 | mk {k : Int} {tx : List UInt8} {n a : Int} {kids : List Syn} {v : Value} (h : KidsAt S w kids v) : SynAt S w (.mk k tx n a kids) [.int .i64 k, .string ⟨tx.toArray⟩, .int .i64 n, .int .i64 a, v]
inductive KidsAt (S : Nat → Prop) (w : World) : List Syn → Value → Prop
 | none : KidsAt S w [] (.slice none 0 0)
 | some {kids : List Syn} {b c : Nat} {cur : Array Value} {fr : Nat × Nat} (hb : w.heap[b]? = some (.cells cur 24 fr)) (hp : S b) (h : RowAt S w kids (cur.toList.take (kids.length * 5))) (hc : kids.length ≤ c) : KidsAt S w kids (.slice (some ⟨b, 0, none⟩) kids.length c)
inductive RowAt (S : Nat → Prop) (w : World) : List Syn → List Value → Prop
 | nil : RowAt S w [] []
 | cons {t : Syn} {r : List Syn} {cs ds : List Value} (h : SynAt S w t cs) (hr : RowAt S w r ds) : RowAt S w (t :: r) (cs ++ ds)
end
abbrev Fr (n : Nat) : Nat → Prop := fun k => n ≤ k
def Keep (S : Nat → Prop) (w w' : World) : Prop := ∀ k, S k → k < w.heap.size → w'.heap[k]? = w.heap[k]?
mutual
theorem SynAt.keep {S S' : Nat → Prop} {w w' : World} (hb : Keep S w w') (hl : ∀ k, S k → S' k) : ∀ {t : Syn} {cs : List Value}, SynAt S w t cs → SynAt S' w' t cs
 | _, _, .mk h => .mk (KidsAt.keep hb hl h)
theorem KidsAt.keep {S S' : Nat → Prop} {w w' : World} (hb : Keep S w w') (hl : ∀ k, S k → S' k) : ∀ {l : List Syn} {v : Value}, KidsAt S w l v → KidsAt S' w' l v
 | _, _, .none => .none
 | _, _, .some h hp hr hc => .some ((hb _ hp (Array.getElem?_eq_some_iff.1 h).1).trans h) (hl _ hp) (RowAt.keep hb hl hr) hc
theorem RowAt.keep {S S' : Nat → Prop} {w w' : World} (hb : Keep S w w') (hl : ∀ k, S k → S' k) : ∀ {l : List Syn} {cs : List Value}, RowAt S w l cs → RowAt S' w' l cs
 | _, _, .nil => .nil
 | _, _, .cons h hr => .cons (SynAt.keep hb hl h) (RowAt.keep hb hl hr)
end
theorem Keep.refl (S : Nat → Prop) (w : World) : Keep S w w := fun _ _ _ => rfl
theorem Keep.alloc (S : Nat → Prop) (w : World) (o : Obj) : Keep S w (w.alloc o) := fun k _ hk => Lib.alloc_old w o k hk
theorem Keep.of_below {S : Nat → Prop} {w w' : World} (h : Below w.heap.size w w') : Keep S w w' := fun k _ hk => h.block k hk
theorem Keep.setP {S : Nat → Prop} {B o : Nat} {w w' : World} {v : Value} (h : Keep S w w') (hB : ¬ S B) : Keep S w (w'.setCell ⟨B, o, none⟩ v) := fun k hk hs => by
 rw [Below.heap_setCell _ _ _ _ (show k ≠ B from fun e => hB (e ▸ hk))]; exact h k hk hs
theorem Keep.set {lo B o : Nat} {w w' : World} {v : Value} (h : Keep (Fr lo) w w') (hB : B < lo ∨ w.heap.size ≤ B) : Keep (Fr lo) w (w'.setCell ⟨B, o, none⟩ v) := fun k hk hs => by
 have hk' : lo ≤ k := hk
 rw [Below.heap_setCell _ _ _ _ (by show k ≠ B; omega)]; exact h k hk hs
theorem Keep.trans {S : Nat → Prop} {a b c : World} (h : Keep S a b) (k : Keep S b c) (hs : a.heap.size ≤ b.heap.size) : Keep S a c := fun i hi hl => (k i hi (by omega)).trans (h i hi hl)
theorem RowAt.append {p : Nat → Prop} {w : World} {a b : List Syn} {cs ds : List Value} (h : RowAt p w a cs) (k : RowAt p w b ds) : RowAt p w (a ++ b) (cs ++ ds) := by
 induction a generalizing cs with
 | nil => cases h; exact k
 | cons t r ih =>
  cases h with
  | cons h hr => rw [List.append_assoc]; exact .cons h (ih hr)
theorem RowAt.length {p : Nat → Prop} {w : World} {a : List Syn} {cs : List Value} (h : RowAt p w a cs) : cs.length = a.length * 5 := by
 induction a generalizing cs with
 | nil => cases h; rfl
 | cons t r ih =>
  cases h with
  | cons h hr =>
   cases h with
   | mk hk => rw [List.length_append, ih hr]; simp; omega
def Q3o (S : Nat → Prop) (w : World) (t : Syn) (v : Value) : Prop := ∃ kv, v = .agg #[.int .i64 t.kind, .string ⟨t.text.toArray⟩, .int .i64 t.num, .int .i64 t.pos, kv] ∧ KidsAt S w t.kids kv
theorem Q3o.keep {S S' : Nat → Prop} {w w' : World} {t : Syn} {v : Value} (h : Q3o S w t v) (hb : Keep S w w') (hl : ∀ k, S k → S' k) : Q3o S' w' t v := by
 obtain ⟨kv, e, hk⟩ := h; exact ⟨kv, e, hk.keep hb hl⟩
structure Only2 (p q : Nat) (w w' : World) : Prop where
 os : w'.os = w.os
 tape : w'.tape = w.tape
 output : w'.output = w.output
 size : w.heap.size ≤ w'.heap.size
 block : ∀ k, k < w.heap.size → k ≠ p → k ≠ q → w'.heap[k]? = w.heap[k]?
theorem Only.two {p : Nat} {w w' : World} (h : Only p w w') (q : Nat) : Only2 p q w w' := ⟨h.os, h.tape, h.output, h.size, fun k hk hp _ => h.block k hk hp⟩
theorem Only2.one {p q : Nat} {w w' : World} (h : Only2 p q w w') (hq : q = p ∨ w.heap.size ≤ q) : Only p w w' := ⟨h.os, h.tape, h.output, h.size, fun k hk hp => h.block k hk hp (by omega)⟩
theorem Only2.trans {p q : Nat} {a b c : World} (h : Only2 p q a b) (k : Only2 p q b c) : Only2 p q a c :=
 ⟨k.os.trans h.os, k.tape.trans h.tape, k.output.trans h.output, Nat.le_trans h.size k.size, fun i hi hp hq => (k.block i (Nat.lt_of_lt_of_le hi h.size) hp hq).trans (h.block i hi hp hq)⟩
theorem Only2.own {p q B o : Nat} {w w' : World} (h : Only2 p q w w') (hB : w.heap.size ≤ B) (v : Value) : Only2 p q w (w'.setCell ⟨B, o, none⟩ v) :=
 ⟨h.os, h.tape, h.output, by simpa [World.setCell] using h.size, fun k hk hp hq => by rw [Below.heap_setCell _ _ _ _ (by show k ≠ B; omega)]; exact h.block k hk hp hq⟩
theorem Only2.keep {p q : Nat} {S : Nat → Prop} {w w' : World} (h : Only2 p q w w') (hp : ¬ S p) (hq : ¬ S q) : Keep S w w' := fun k hk hs => h.block k hs (fun e => hp (e ▸ hk)) (fun e => hq (e ▸ hk))
def GOut (pb q tb c lv : Nat) (T : List Tok) (w : World) (J : Nat → Syn → World → Prop) (o : Out Syn) (r : Ending) (w' : World) : Prop :=
 Only2 pb q w w' ∧ match o with
 | .none => False
 | .err p e => r = .panicked (Q39 p e)
 | .ok t i => (∃ v, r = .returned v ∧ Q3o (Fr w.heap.size) w' t v ∧ J w.heap.size t w') ∧ PS pb tb c T i lv w'
def Stable (pb q : Nat) (J : Nat → Syn → World → Prop) : Prop := ∀ lo lo' t W W', J lo t W → lo' ≤ lo → Keep (Fr lo) W W' → (q ≠ pb → W'.heap[q]? = W.heap[q]?) → J lo' t W'
abbrev POut (pb tb c lv : Nat) (T : List Tok) (w : World) (o : Out Syn) (r : Ending) (w' : World) : Prop := GOut pb pb tb c lv T w (fun _ _ _ => True) o r w'
def Qrn (pb tb c i lv : Nat) (T : List Tok) (w : World) (b : Bool) (r : Ending) (w' : World) : Prop :=
 Only pb w w' ∧ match b with
 | true => r = .returned (Q4w (tk T i)) ∧ PS pb tb c T (nx T i) lv w'
 | false => r = .panicked (Q39 (tk T i).pos 4)
theorem own3 {w : World} {B : Nat} {a b c : Value} {T : TypeId} (h : w.heap[B]? = some (.cells #[a, b, c] T (0, 0))) :
  (w.cell? ⟨B, 0, none⟩ = some a ∧ w.cell? ⟨B, 1, none⟩ = some b ∧ w.cell? ⟨B, 2, none⟩ = some c) ∧ ∀ o, w.frozen? ⟨B, o, none⟩ = false := by
 refine ⟨⟨?_, ?_, ?_⟩, fun o => Lib.frozen_of_heap h o⟩ <;> (rw [World.cell?, h]; rfl)
theorem own5 {w : World} {B : Nat} {a b c d e : Value} {T : TypeId} (h : w.heap[B]? = some (.cells #[a, b, c, d, e] T (0, 0))) :
  (w.cell? ⟨B, 0, none⟩ = some a ∧ w.cell? ⟨B, 1, none⟩ = some b ∧ w.cell? ⟨B, 2, none⟩ = some c ∧ w.cell? ⟨B, 3, none⟩ = some d ∧ w.cell? ⟨B, 4, none⟩ = some e) ∧ ∀ o, w.frozen? ⟨B, o, none⟩ = false := by
 refine ⟨⟨?_, ?_, ?_, ?_, ?_⟩, fun o => Lib.frozen_of_heap h o⟩ <;> (rw [World.cell?, h]; rfl)
theorem Only.keep {p : Nat} {w w' : World} (h : Only p w w') {B : Nat} {o : Obj} (hB : w.heap[B]? = some o) (hp : B ≠ p) : w'.heap[B]? = some o :=
 (h.block B (Array.getElem?_eq_some_iff.1 hB).1 hp).trans hB
theorem Qb6 (pb tb c i lv : Nat) (T : List Tok) (w : World) (s : List UInt8) (h : PS pb tb c T i lv w) :
  Calls Tryz.prog 66 #[.pointer (some ⟨pb, 0, none⟩), .string ⟨s.toArray⟩] w (Qrn pb tb c i lv T w (isW T [s] i)) := by
 have hpos := h.pos
 have htb := h.toks.1
 have hIs : ∀ W, PS pb tb c T i lv W → WAt W (w.heap.size + 1) [s] → Calls Tryz.prog 73 #[.pointer (some ⟨pb, 0, none⟩), .slice (some ⟨w.heap.size + 1, 0, none⟩) 1 1] W fun r w' => r = .returned (.bool (isW T [s] i)) ∧ (PS pb tb c T i lv w' ∧ Only pb W w') :=
  fun W a b => Qcv pb tb c i lv T W (w.heap.size + 1) [s] a b (by simp)
 have hN := qh (fun W (h : PS pb tb c T i lv W) => Q8x pb tb c i lv T W h)
 have hF : Hid (∀ W, PS pb tb c T i lv W → Calls Tryz.prog 65 #[.pointer (some ⟨pb, 0, none⟩), .int .i64 4] W fun r w' => r = .panicked (Q39 (tk T i).pos 4) ∧ Only pb W w') := fun W h => Q6e pb tb c i lv T W 4 h
 have h1 : ∀ A, PS pb tb c T i lv ((w.alloc A).alloc (.cells #[.string ⟨s.toArray⟩] 9)) := fun A => (h.alloc _).alloc _
 have hw1 : ∀ A, WAt ((w.alloc A).alloc (.cells #[.string ⟨s.toArray⟩] 9)) (w.heap.size + 1) [s] := by
  intro A
  refine ⟨by simp, fun j hj => ?_⟩
  have : j = 0 := by simpa using hj
  subst this
  have := heap_alloc_new (w.alloc A) (.cells #[.string ⟨s.toArray⟩] 9)
  rw [World.size_alloc] at this
  rw [World.cell?, this]; rfl
 replace h := qh h
 replace h1 := qh h1
 replace hw1 := qh hw1
 cases hb : isW T [s] i
 ·rw [hb] at hIs
  replace hIs := qh hIs
  clear hb
  go_enter Tryz.func66, Tryz.ntmps66
  go_wp2_with fail
  (with_reducible refine (hIs.out _ (h1.out _) (hw1.out _)).mono ?_); rintro e w1 ⟨rfl, p1, o1⟩
  replace p1 := qh p1
  replace o1 := qh (((Only.alloc _ _ _).trans (Only.alloc _ _ _)).trans o1)
  go_wp2_with fail
  (with_reducible refine (hF.out _ p1.out).mono ?_); rintro e w2 ⟨rfl, o2⟩
  exact ⟨rfl, o1.out.trans o2, rfl⟩
 ·rw [hb] at hIs
  replace hIs := qh hIs
  clear hb
  go_enter Tryz.func66, Tryz.ntmps66
  go_wp2_with fail
  (with_reducible refine (hIs.out _ (h1.out _) (hw1.out _)).mono ?_); rintro e w1 ⟨rfl, p1, o1⟩
  have hB1 := o1.keep (B := w.heap.size) (o := .cells #[.int .i64 0, .string ⟨#[]⟩, .int .i64 0] 45 (0, 0)) (by rw [Lib.alloc_old _ _ _ (by simp)]; exact heap_alloc_new _ _) (by omega)
  replace p1 := qh p1
  replace o1 := qh (((Only.alloc _ _ _).trans (Only.alloc _ _ _)).trans o1)
  replace hB1 := qh hB1
  go_wp2_with fail
  (with_reducible refine (hN.out _ p1.out).mono ?_); rintro e w2 ⟨rfl, p2, o2⟩
  have hB2 := o2.keep hB1.out (by omega)
  obtain ⟨⟨r0, r1, r2⟩, hfz⟩ := own3 hB2
  replace hB2 := qh hB2
  replace o2 := qh (o1.out.trans o2)
  replace p2 := qh p2
  generalize htk : tk T i = t at *
  obtain ⟨kd, tx, ps⟩ := t
  replace htk := qh htk
  simp only [Q4w]
  go_wp2_with fail
  refine bodyPost_ret (v := .agg #[.int .i64 kd, .string ⟨tx.toArray⟩, .int .i64 ps]) (by simp [results, Tryz.results66, go_sem, r0, r1, r2]) rfl ⟨?_, by rw [htk.out]; rfl, ?_⟩
  ·exact Only.own (Only.own (Only.own o2.out (Nat.le_refl _) _) (Nat.le_refl _) _) (Nat.le_refl _) _
  ·refine PS.own (PS.own (PS.own p2.out ?_ ?_) ?_ ?_) ?_ ?_ <;> omega
theorem Qkh (S : Nat → Prop) (op : List UInt8) (num : Int) (a b : Syn) (va vb : Value) (w : World) (ha : Q3o S w a va) (hb : Q3o S w b vb) (hp : ∀ k, w.heap.size ≤ k → S k) :
  Calls Tryz.prog 75 #[.string ⟨op.toArray⟩, .int .i64 num, va, vb] w fun r w' => (∃ v, r = .returned v ∧ Q3o S w' (binary op num a b) v) ∧ Below w.heap.size w w' := by
 obtain ⟨ka, rfl, hka⟩ := ha
 obtain ⟨kb, rfl, hkb⟩ := hb
 cases a with
 | mk k1 t1 n1 p1 l1 =>
 cases b with
 | mk k2 t2 n2 p2 l2 =>
 simp only [Syn.kind, Syn.text, Syn.num, Syn.pos, Syn.kids] at *
 replace hka := qh hka
 replace hkb := qh hkb
 go_enter Tryz.func75, Tryz.ntmps75
 go_wp2_with fail
 refine bodyPost_ret (v := .agg #[.int .i64 11, .string ⟨op.toArray⟩, .int .i64 num, .int .i64 p1, .slice (some ⟨w.heap.size + 1 + 1 + 1, 0, none⟩) 2 2]) (by simp [results, Tryz.results75, go_sem]) rfl ⟨⟨_, rfl, _, rfl, ?_⟩, (((((Below.refl _ _).alloc (Nat.le_refl _) _).alloc (by simp) _).alloc (by simp; omega) _).alloc (by simp; omega) _)⟩
 have hO : ∀ A B C D : Obj, Keep S w ((((w.alloc A).alloc B).alloc C).alloc D) := fun A B C D => Keep.of_below (((((Below.refl _ _).alloc (Nat.le_refl _) _).alloc (by simp) _).alloc (by simp; omega) _).alloc (by simp; omega) _)
 have hblk := heap_alloc_new (((w.alloc (.cells #[.int .i64 k1, .string ⟨t1.toArray⟩, .int .i64 n1, .int .i64 p1, ka] 24)).alloc (.cells #[.int .i64 k2, .string ⟨t2.toArray⟩, .int .i64 n2, .int .i64 p2, kb] 24)).alloc
  (.cells #[.int .i64 11, .string ⟨op.toArray⟩, .int .i64 num, .int .i64 p1, .slice (some ⟨w.heap.size + 1 + 1 + 1, 0, none⟩) 2 2] 24)) (.cells #[.int .i64 k1, .string ⟨t1.toArray⟩, .int .i64 n1, .int .i64 p1, ka, .int .i64 k2, .string ⟨t2.toArray⟩, .int .i64 n2, .int .i64 p2, kb] 24)
 rw [World.size_alloc, World.size_alloc, World.size_alloc] at hblk
 exact KidsAt.some hblk (hp _ (by omega)) (RowAt.cons (cs := [.int .i64 k1, .string ⟨t1.toArray⟩, .int .i64 n1, .int .i64 p1, ka]) (.mk (hka.out.keep (hO _ _ _ _) fun _ h => h)) (RowAt.cons (cs := [.int .i64 k2, .string ⟨t2.toArray⟩, .int .i64 n2, .int .i64 p2, kb]) (.mk (hkb.out.keep (hO _ _ _ _) fun _ h => h)) .nil)) (Nat.le_refl _)
theorem PS.draw {pb tb c i lv : Nat} {T : List Tok} {w : World} (h : PS pb tb c T i lv w) : PS pb tb c T i lv w.drew := h.drew 1
theorem Qdq (w : World) (a b : Array Value) (A B : TypeId) :
  ((w.alloc (.cells a A)).alloc (.cells b B)).drew.heap[w.heap.size]? = some (.cells a A (0, 0)) ∧ ((w.alloc (.cells a A)).alloc (.cells b B)).drew.heap[w.heap.size + 1]? = some (.cells b B (0, 0)) := by
 have h := heap_alloc_new (w.alloc (.cells a A)) (.cells b B)
 rw [World.size_alloc] at h
 refine ⟨?_, h⟩
 show ((w.alloc (.cells a A)).alloc (.cells b B)).heap[w.heap.size]? = _
 rw [Lib.alloc_old _ _ _ (by simp)]
 exact heap_alloc_new _ _
theorem Q73 (pb tb c i lv : Nat) (T : List Tok) (w : World) (h : PS pb tb c T i lv w) :
  Calls Tryz.prog 123 #[.pointer (some ⟨pb, 0, none⟩)] w (POut pb tb c lv T w (name Q0 T i)) := by
 obtain ⟨c0, c1, c2⟩ := h.cells
 obtain ⟨t0, t1, t2⟩ := h.tok
 have hlt := h.lt
 have hsz := h.size
 have hpos := h.pos
 have htb := h.toks.1
 have hi0 : (0 : Int) ≤ (i : Int) := by omega
 have hi1 : (i : Int) < (T.length : Int) := by omega
 have hN := qh (fun W (h : PS pb tb c T i lv W) => Q8x pb tb c i lv T W h)
 have hF : Hid (∀ W, PS pb tb c T i lv W → Calls Tryz.prog 65 #[.pointer (some ⟨pb, 0, none⟩), .int .i64 4] W fun r w' => r = .panicked (Q39 (tk T i).pos 4) ∧ Only pb W w') := fun W h => Q6e pb tb c i lv T W 4 h
 have hr : name Q0 T i = if (tk T i).kind ≠ 0 ∨ Q0 (tk T i).text = true then .err (tk T i).pos 4 else .ok (.mk 8 (tk T i).text 0 (tk T i).pos []) (nx T i) := rfl
 generalize tk T i = t at *
 obtain ⟨kd, tx, ps⟩ := t
 simp only at t0 t1 t2 hr hF
 have hR := fun W (hs : Q0p W) => Qhi tx W hs
 have h1 := qh (((h.alloc (.cells #[.int .i64 0, .string ⟨#[]⟩, .int .i64 0, .int .i64 0, .slice none 0 0] 24)).alloc (.cells #[.int .i64 kd, .string ⟨tx.toArray⟩, .int .i64 ps] 45)).draw)
 have o1 := qh (show Only pb w (((w.alloc (.cells #[.int .i64 0, .string ⟨#[]⟩, .int .i64 0, .int .i64 0, .slice none 0 0] 24)).alloc (.cells #[.int .i64 kd, .string ⟨tx.toArray⟩, .int .i64 ps] 45)).drew) from (Only.alloc _ _ _).trans ((Only.alloc _ _ _).trans (Only.drew _ 1 _)))
 have hbl := qh (Qdq w #[.int .i64 0, .string ⟨#[]⟩, .int .i64 0, .int .i64 0, .slice none 0 0] #[.int .i64 kd, .string ⟨tx.toArray⟩, .int .i64 ps] 24 45)
 replace h := qh h
 by_cases h0 : kd = 0
 ·have b0 : (kd != 0) = false := by rw [bne_eq_false_iff_eq]; exact h0
  cases hrs : Q0 tx
  ·rw [hrs] at hR hr
   rw [if_neg (by simp [h0])] at hr
   replace hR := qh hR
   replace hr := qh hr
   replace h0 := qh h0
   clear hrs
   go_enter Tryz.func123, Tryz.ntmps123
   go_wp2_with fail
   go_region
   go_wp2_with fail
   (with_reducible refine (hR.out _ h1.out.space).mono ?_); rintro e w1 ⟨rfl, b1⟩
   have p1 := qh (h1.out.below b1)
   have q1 := qh (o1.out.trans (Only.of_below (p := pb) b1))
   have hB1 := qh ((Only.of_below (p := pb) b1).keep hbl.out.1 (by omega))
   have hK1 := qh ((Only.of_below (p := pb) b1).keep hbl.out.2 (by omega))
   clear b1
   go_wp2_with fail
   (with_reducible refine (hN.out _ p1.out).mono ?_); rintro e w2 ⟨rfl, p2, o2⟩
   obtain ⟨⟨r0, r1, r2, r3, r4⟩, hfz⟩ := own5 (o2.keep hB1.out (by omega))
   obtain ⟨⟨s0, s1, s2⟩, _⟩ := own3 (o2.keep hK1.out (by omega))
   replace p2 := qh p2
   replace o2 := qh (q1.out.trans o2)
   go_wp2_with fail
   refine bodyPost_ret (v := .agg #[.int .i64 8, .string ⟨tx.toArray⟩, .int .i64 0, .int .i64 ps, .slice none 0 0]) (by simp [results, Tryz.results123, go_sem, r0, r1, r2, r3, r4]) rfl ⟨?_, ?_⟩
   ·exact Only.two (q := pb) <| Only.own (Only.own (Only.own (Only.own (Only.own o2.out (Nat.le_refl _) _) (Nat.le_refl _) _) (Nat.le_refl _) _) (Nat.le_refl _) _) (Nat.le_refl _) _
   ·rw [hr.out]
    refine ⟨⟨_, rfl, ⟨_, rfl, .none⟩, trivial⟩, ?_⟩
    refine PS.own (PS.own (PS.own (PS.own (PS.own p2.out ?_ ?_) ?_ ?_) ?_ ?_) ?_ ?_) ?_ ?_ <;> omega
  ·rw [hrs] at hR hr
   rw [if_pos (.inr rfl)] at hr
   replace hR := qh hR
   replace hr := qh hr
   replace h0 := qh h0
   clear hrs
   go_enter Tryz.func123, Tryz.ntmps123
   go_wp2_with fail
   go_region
   go_wp2_with fail
   (with_reducible refine (hR.out _ h1.out.space).mono ?_); rintro e w1 ⟨rfl, b1⟩
   have p1 := qh (h1.out.below b1)
   have q1 := qh (o1.out.trans (Only.of_below (p := pb) b1))
   clear b1
   go_wp2_with fail
   (with_reducible refine (hF.out _ p1.out).mono ?_); rintro e w2 ⟨rfl, o2⟩
   exact ⟨rfl, (q1.out.trans o2).two pb, by rw [hr.out]⟩
 ·have b0 : (kd != 0) = true := by rw [bne_iff_ne]; exact h0
  rw [if_pos (.inl h0)] at hr
  replace hr := qh hr
  replace h0 := qh h0
  clear hR
  go_enter Tryz.func123, Tryz.ntmps123
  go_wp2_with fail
  go_region
  go_wp2_with fail
  (with_reducible refine (hF.out _ h1.out).mono ?_); rintro e w2 ⟨rfl, o2⟩
  exact ⟨rfl, (o1.out.trans o2).two pb, by rw [hr.out]⟩
theorem Qi9 (l : List UInt8) (w : World) (h0 : l ≠ []) (hd : ∀ c ∈ l, Q9 c.toNat = true) (hv : dv 0 l ≤ 1048576) (hl : l.length ≤ 1000000) :
  Calls Tryz.prog 122 #[.string ⟨l.toArray⟩] w fun e w' => e = .returned (.tuple #[.int .i64 (dv 0 l : Nat), .nilIface]) ∧ Below w.heap.size w w' := by
 refine (Tryz.strconv_Atoi_ok ⟨l.toArray⟩ (by rw [Q61]; omega) (dv 0 l : Nat) (Qsu h0 hd hv) w).mono ?_
 rintro e w' ⟨rfl, hw⟩
 refine ⟨rfl, ?_⟩
 rcases hw with rfl | ⟨t, rfl⟩
 ·exact Below.refl _ _
 ·exact Qe0 _ _ _
theorem Q7h (pb tb c i lv : Nat) (T : List Tok) (w : World) (h : PS pb tb c T i lv w) :
  Calls Tryz.prog 67 #[.pointer (some ⟨pb, 0, none⟩)] w (POut pb tb c lv T w (number T i)) := by
 obtain ⟨c0, c1, c2⟩ := h.cells
 obtain ⟨t0, t1, t2⟩ := h.tok
 have hlt := h.lt
 have hsz := h.size
 have hpos := h.pos
 have htb := h.toks.1
 have hi0 : (0 : Int) ≤ (i : Int) := by omega
 have hi1 : (i : Int) < (T.length : Int) := by omega
 have hN := qh (fun W (h : PS pb tb c T i lv W) => Q8x pb tb c i lv T W h)
 have hF : Hid (∀ W, PS pb tb c T i lv W → Calls Tryz.prog 65 #[.pointer (some ⟨pb, 0, none⟩), .int .i64 4] W fun r w' => r = .panicked (Q39 (tk T i).pos 4) ∧ Only pb W w') := fun W h => Q6e pb tb c i lv T W 4 h
 have hr : number T i = if (tk T i).kind ≠ 1 then .err (tk T i).pos 4 else .ok (.mk 9 [] (dv 0 (tk T i).text : Nat) (tk T i).pos []) (nx T i) := rfl
 have hmem : tk T i ∈ T := by
  have e : tk T i = T[i]'hlt := by unfold tk; rw [List.getD_eq_getElem?_getD, List.getElem?_eq_getElem hlt]; rfl
  rw [e]; exact List.getElem_mem hlt
 have hnum := h.nums (tk T i) hmem
 clear hmem
 generalize tk T i = t at *
 obtain ⟨kd, tx, ps⟩ := t
 simp only at t0 t1 t2 hr hF hnum
 have h1 := qh (((h.alloc (.cells #[.int .i64 0, .string ⟨#[]⟩, .int .i64 0, .int .i64 0, .slice none 0 0] 24)).alloc (.cells #[.int .i64 kd, .string ⟨tx.toArray⟩, .int .i64 ps] 45)).draw)
 have o1 := qh (show Only pb w (((w.alloc (.cells #[.int .i64 0, .string ⟨#[]⟩, .int .i64 0, .int .i64 0, .slice none 0 0] 24)).alloc (.cells #[.int .i64 kd, .string ⟨tx.toArray⟩, .int .i64 ps] 45)).drew) from (Only.alloc _ _ _).trans ((Only.alloc _ _ _).trans (Only.drew _ 1 _)))
 have hbl := qh (Qdq w #[.int .i64 0, .string ⟨#[]⟩, .int .i64 0, .int .i64 0, .slice none 0 0] #[.int .i64 kd, .string ⟨tx.toArray⟩, .int .i64 ps] 24 45)
 replace h := qh h
 by_cases h0 : kd = 1
 ·have b0 : (kd != 1) = false := by rw [bne_eq_false_iff_eq]; exact h0
  obtain ⟨n0, n1, n2, n3⟩ := hnum h0
  have hA := qh (fun W => Qi9 tx W n0 n1 n2 n3)
  rw [if_neg (by simp [h0])] at hr
  generalize dv 0 tx = nv at *
  replace hr := qh hr
  replace h0 := qh h0
  clear hnum n0 n1 hF
  go_enter Tryz.func67, Tryz.ntmps67
  go_wp2_with fail
  go_region
  go_wp2_with fail
  (with_reducible refine (hN.out _ h1.out).mono ?_); rintro e w2 ⟨rfl, p2, o2⟩
  have hB2 := o2.keep hbl.out.1 (by omega)
  have hK2 := o2.keep hbl.out.2 (by omega)
  obtain ⟨⟨s0, s1, s2⟩, _⟩ := own3 hK2
  replace p2 := qh p2
  replace hB2 := qh hB2
  replace hK2 := qh hK2
  replace o2 := qh (o1.out.trans o2)
  go_wp2_with fail
  (with_reducible refine (hA.out _).mono ?_); rintro e w3 ⟨rfl, b3⟩
  have p3 := qh (p2.out.below b3)
  obtain ⟨⟨r0, r1, r2, r3, r4⟩, hfz⟩ := own5 ((Only.of_below (p := pb) b3).keep hB2.out (by omega))
  obtain ⟨⟨u0, u1, u2⟩, _⟩ := own3 ((Only.of_below (p := pb) b3).keep hK2.out (by omega))
  have o3 := qh (o2.out.trans (Only.of_below (p := pb) b3))
  clear b3 s0 s1 s2
  go_wp2_with fail
  refine bodyPost_ret (v := .agg #[.int .i64 9, .string ⟨#[]⟩, .int .i64 nv, .int .i64 ps, .slice none 0 0]) (by simp [results, Tryz.results67, go_sem, r0, r1, r2, r3, r4]) rfl ⟨?_, ?_⟩
  ·exact Only.two (q := pb) <| Only.own (Only.own (Only.own (Only.own (Only.own o3.out (Nat.le_refl _) _) (Nat.le_refl _) _) (Nat.le_refl _) _) (Nat.le_refl _) _) (Nat.le_refl _) _
  ·rw [hr.out]
   refine ⟨⟨_, rfl, ⟨_, rfl, .none⟩, trivial⟩, ?_⟩
   refine PS.own (PS.own (PS.own (PS.own (PS.own p3.out ?_ ?_) ?_ ?_) ?_ ?_) ?_ ?_) ?_ ?_ <;> omega
 ·have b0 : (kd != 1) = true := by rw [bne_iff_ne]; exact h0
  rw [if_pos h0] at hr
  replace hr := qh hr
  replace h0 := qh h0
  clear hnum
  go_enter Tryz.func67, Tryz.ntmps67
  go_wp2_with fail
  go_region
  go_wp2_with fail
  (with_reducible refine (hF.out _ h1.out).mono ?_); rintro e w2 ⟨rfl, o2⟩
  exact ⟨rfl, (o1.out.trans o2).two pb, by rw [hr.out]⟩
end Go.Proofs.YtplbfmcgddnkeaaGreatDoor
