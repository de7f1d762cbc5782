/- Walks of functions, and plain facts. -/
import Derived.Deep.LoopGhost
import Derived.RegionTactic
import Derived.Test.YtplbfmcgddnkeaaGreatDoorC24
set_option linter.unusedVariables false
set_option linter.unusedSimpArgs false
set_option maxHeartbeats 20000000
set_option maxRecDepth 100000
namespace Go.Proofs.YtplbfmcgddnkeaaGreatDoor
open Go.RowKit
section
attribute [local go_sem ↓] Go.wp_at_zero Go.wp_at_succ
def Qcz (pb tb c lv B L : Nat) (T : List Tok) (r : Rd) (ops : List (List UInt8)) (w : World) (o : Out Syn) (g : Nat) (wr : World) : Prop :=
 ∃ k tx n a kids j ka kn kc, At pb pb tb c lv T w [(L, [.int .i64 k, .string ⟨List.toArray tx⟩, .int .i64 n, .int .i64 a, .slice ka kn kc], 24), (B, z5, 24)] [(kids, .slice ka kn kc)] norow j wr ∧
  o = Q1b T r ops lv g (.mk k tx n a kids) j
theorem Q53 (pb tb c i lv wb : Nat) (ops : List (List UInt8)) (T : List Tok) (w : World) (fn : Nat) (first cap : Array Value) (r : Rd)
  (hc : ∀ args w, (callFunc fn args).run Tryz.prog w = .ok (.enter fn args) w) (h : PS pb tb c T i lv w) (hw : WAt w wb ops) (hwp : wb ≠ pb) (hlo : ops.length ≤ 100) (hne : left T r ops lv i ≠ .none)
  (hr : Q5m pb pb tb c lv T w Tru fn (first ++ cap) (r lv)) :
  Calls Tryz.prog 69 #[.pointer (some ⟨pb, 0, none⟩), .func (.func fn) first cap, .slice (some ⟨wb, 0, none⟩) ops.length ops.length] w (POut pb tb c lv T w (left T r ops lv i)) := by
 have hA0 := At.begin h
 have hres := qh (show left T r ops lv i = (r lv i).bind fun x i => Q1b T r ops lv (T.length + 1) x i from rfl)
 replace hw := qh hw
 replace hr := qh (fun i W (hp : PS pb tb c T i lv W) (hw : Only2 pb pb w W) hn => hr W i hp (hw.one (.inl rfl)) hn)
 clear h
 generalize left T r ops lv i = o at hres hne ⊢
 have hA1 := hA0.alloc z5 24
 go_enter Tryz.func69, Tryz.ntmps69
 go_wp2_with fail
 have hB : w.heap.size < (w.alloc (.cells z5.toArray 24)).heap.size := by simp
 generalize hws : w.heap.size = B at *
 refine hA1.cRdr hres.out hne (hr.out _ _ hA1.ps hA1.only) (fun _ _ h => ⟨rfl, h⟩) ?_
 intro kd tx n a kids j g m cp w1 hres1 hA2
 replace hres1 := qh hres1
 have hBw : B < w1.heap.size := hA2.lt (x := (B, _, _)) (List.mem_cons_self ..)
 have hA3 := hA2.alloc [.int .i64 kd, .string ⟨tx.toArray⟩, .int .i64 n, .int .i64 a, .slice g m cp] 24
 go_wp2_with fail
 generalize w1.heap.size = L at *
 generalize w1.alloc (.cells #[.int .i64 kd, .string ⟨tx.toArray⟩, .int .i64 n, .int .i64 a, .slice g m cp] 24) = w2 at *
 have hinv := qh (show Qcz pb tb c lv B L T r ops w o (T.length + 1) w2 from ⟨kd, tx, n, a, kids, j, g, m, cp, hA3, hres1.out⟩)
 clear hA0 hA1 hA2 hA3 hres hres1 hB
 go_loopg [10] (T.length + 1) (fun g _ wr => Qcz pb tb c lv B L T r ops w o g wr)
 case atStart => exact hinv.out
 case round =>
  obtain ⟨k, tx, n, a, kids, j, ka, kn, kc, hA, hres⟩ := hrel
  obtain ⟨g', rfl⟩ : ∃ g', gk = g' + 1 := by
   cases gk with
   | zero => exact absurd hres hne
   | succ g' => exact ⟨g', rfl⟩
  replace hres := qh (show o = if isW T ops j then (r lv (nx T j)).bind fun y l => Q1b T r ops lv g' (binary (tk T j).text 0 (.mk k tx n a kids) y) l else .ok (.mk k tx n a kids) j from hres)
  clear hinv
  go_wp2_with fail
  have hwr := hw.out.only (hA.only.one (.inl rfl)) hwp
  refine hA.cIsW hwr hlo ?_ ?_
  ·intro hb w3 hA3
   have hres3 := qh (hres.out.trans (by rw [hb]; rfl) : o = .ok (.mk k tx n a kids) j)
   obtain ⟨⟨⟨r0, r1, r2, r3, r4⟩, hfz⟩, l3, _⟩ := hA3.c5
   have hsb : Qi w3 B := hA3.swap.blk
   have hA4 := hA3.swap.setSyn (.int .i64 k) (.string ⟨tx.toArray⟩) (.int .i64 n) (.int .i64 a) (.slice ka kn kc)
   obtain ⟨⟨⟨s0, s1, s2, s3, s4⟩, _⟩, _, _⟩ := hA4.c5
   have hout := qh (hA4.out (k := k) (tx := tx) (n := n) (a := a) (List.mem_cons_self ..))
   clear hA hA3 hA4 hb hwr
   go_wp2_with fail
   exact bodyPost_ret (v := .agg #[.int .i64 k, .string ⟨tx.toArray⟩, .int .i64 n, .int .i64 a, .slice ka kn kc]) (by simp [results, Tryz.results69, go_sem, s0, s1, s2, s3, s4]) rfl (hres3.out ▸ hout.out)
  ·intro hb w3 hA3
   have hres3 := qh (hres.out.trans (by rw [hb]; rfl) : o = (r lv (nx T j)).bind fun y l => Q1b T r ops lv g' (binary (tk T j).text 0 (.mk k tx n a kids) y) l)
   clear hwr hA hres hb
   go_wp2_with fail
   have hA4 := hA3.drew
   obtain ⟨⟨⟨l0, l1, l2, l3, l4⟩, hfl⟩, ll, _⟩ := hA4.c5
   go_region_with (first
    | (go_at_call 74; refine hA4.cNext ?_; intro w5 hA5; obtain ⟨⟨⟨l0, l1, l2, l3, l4⟩, hfl⟩, ll, _⟩ := hA5.c5)
    | (go_at_call 75; refine hA6.cBin (List.mem_cons_of_mem _ (List.mem_cons_self ..)) (List.mem_cons_self ..) ?_; intro g7 m7 cp7 w7 hA7; have hsb7 := hA7.blk)
    | (refine hA5.cRdr hres3.out hne (hr.out _ _ hA5.ps hA5.only) (fun _ _ h => ⟨rfl, h⟩) ?_; intro k6 tx6 n6 a6 kids6 j6 g6 m6 cp6 w6 hres6 hA6; replace hres6 := qh hres6; obtain ⟨⟨⟨l0, l1, l2, l3, l4⟩, hfl⟩, ll, _⟩ := hA6.c5))
   all_goals
    have hA8 := (hA7.setSyn (.int .i64 11) (.string ⟨(tk T j).text.toArray⟩) (.int .i64 0) (.int .i64 a) (.slice g7 m7 cp7)).weak (ts' := [([.mk k tx n a kids, .mk k6 tx6 n6 a6 kids6], .slice g7 m7 cp7)]) (fun x hx => by rw [List.mem_singleton.1 hx]; exact List.mem_cons_self ..)
    have hI := qh (show Qcz pb tb c lv B L T r ops w o g' _ from ⟨11, _, 0, a, _, j6, g7, m7, cp7, hA8, hres6.out⟩)
    clear hA3 hA4 hA5 hA6 hA7 hA8 hres3 hres6 hsb7
    go_wp2_with fail
    go_roundg g'
    case measure => omega
    case rel => exact hI.out
end
def RdAt (pb tb c : Nat) (T : List Tok) (fn : Nat) (r : Rd) (lv : Nat) : Prop :=
 ∀ W i, PS pb tb c T i lv W → r lv i ≠ .none → Calls Tryz.prog fn #[.pointer (some ⟨pb, 0, none⟩)] W (POut pb tb c lv T W (r lv i))
theorem Q5j (w : World) (ws : List (List UInt8)) : WAt (w.alloc (.cells (ws.map fun l => Value.string ⟨l.toArray⟩).toArray 9)) w.heap.size ws := by
 refine ⟨by simp, fun j hj => ?_⟩
 rw [World.cell?, heap_alloc_new]
 simp [hj]
theorem Qr8 (pb tb c lv i : Nat) (T : List Tok) (w : World) (r : Rd) (h : PS pb tb c T i lv w) (hne : left T r [kOr] lv i ≠ .none) (hr : RdAt pb tb c T 70 r lv) :
  Calls Tryz.prog 35 #[.pointer (some ⟨pb, 0, none⟩)] w (POut pb tb c lv T w (left T r [kOr] lv i)) := by
 have hA1 := (At.begin h).alloc z5 24
 have hA2 := hA1.junk (.cells (List.map (fun l : List UInt8 => Value.string ⟨l.toArray⟩) [kOr]).toArray 9)
 have hwa := Q5j (w.alloc (.cells z5.toArray 24)) [kOr]
 have hz : (w.alloc (.cells z5.toArray 24)).heap.size = w.heap.size + 1 := World.size_alloc _ _
 rw [hz] at hwa
 have hne2 : w.heap.size + 1 ≠ pb := by have := h.pos; omega
 have hcall := qh (fun hn => Q53 pb tb c i lv (w.heap.size + 1) [kOr] T _ 70 #[.pointer (some ⟨pb, 0, none⟩)] #[] r (fun _ _ => rfl) hA2.ps hwa hne2 (by decide) hn (fun W i hp _ hn => hr W i hp hn))
 generalize left T r [kOr] lv i = o at hne hcall ⊢
 clear hr h hwa hne2 hz
 go_enter Tryz.func35, Tryz.ntmps35
 go_wp2_with fail
 refine hA2.cRdr o.bind_ok hne hcall.out (fun _ _ h => ⟨rfl, h⟩) ?_
 intro kd tx n a kids j g m cp w3 hres hA3
 replace hres := qh hres
 have hsb := hA3.blk
 have hAz := hA3.setSyn (.int .i64 kd) (.string ⟨tx.toArray⟩) (.int .i64 n) (.int .i64 a) (.slice g m cp)
 obtain ⟨⟨⟨s0, s1, s2, s3, s4⟩, _⟩, _, _⟩ := hAz.c5
 have hout := qh (hAz.out (k := kd) (tx := tx) (n := n) (a := a) (List.mem_cons_self ..))
 clear hAz hA3
 go_wp21
 exact bodyPost_ret (v := .agg #[.int .i64 kd, .string ⟨tx.toArray⟩, .int .i64 n, .int .i64 a, .slice g m cp]) (by simp [results, Tryz.results35, go_sem, s0, s1, s2, s3, s4]) rfl (hres.out ▸ hout.out)
theorem Qqe (pb tb c lv i : Nat) (T : List Tok) (w : World) (r : Rd) (h : PS pb tb c T i lv w) (hne : left T r [kAnd] lv i ≠ .none) (hr : RdAt pb tb c T 125 r lv) :
  Calls Tryz.prog 70 #[.pointer (some ⟨pb, 0, none⟩)] w (POut pb tb c lv T w (left T r [kAnd] lv i)) := by
 have hA1 := (At.begin h).alloc z5 24
 have hA2 := hA1.junk (.cells (List.map (fun l : List UInt8 => Value.string ⟨l.toArray⟩) [kAnd]).toArray 9)
 have hwa := Q5j (w.alloc (.cells z5.toArray 24)) [kAnd]
 have hz : (w.alloc (.cells z5.toArray 24)).heap.size = w.heap.size + 1 := World.size_alloc _ _
 rw [hz] at hwa
 have hne2 : w.heap.size + 1 ≠ pb := by have := h.pos; omega
 have hcall := qh (fun hn => Q53 pb tb c i lv (w.heap.size + 1) [kAnd] T _ 125 #[.pointer (some ⟨pb, 0, none⟩)] #[] r (fun _ _ => rfl) hA2.ps hwa hne2 (by decide) hn (fun W i hp _ hn => hr W i hp hn))
 generalize left T r [kAnd] lv i = o at hne hcall ⊢
 clear hr h hwa hne2 hz
 go_enter Tryz.func70, Tryz.ntmps70
 go_wp2_with fail
 refine hA2.cRdr o.bind_ok hne hcall.out (fun _ _ h => ⟨rfl, h⟩) ?_
 intro kd tx n a kids j g m cp w3 hres hA3
 replace hres := qh hres
 have hsb := hA3.blk
 have hAz := hA3.setSyn (.int .i64 kd) (.string ⟨tx.toArray⟩) (.int .i64 n) (.int .i64 a) (.slice g m cp)
 obtain ⟨⟨⟨s0, s1, s2, s3, s4⟩, _⟩, _, _⟩ := hAz.c5
 have hout := qh (hAz.out (k := kd) (tx := tx) (n := n) (a := a) (List.mem_cons_self ..))
 clear hAz hA3
 go_wp21
 exact bodyPost_ret (v := .agg #[.int .i64 kd, .string ⟨tx.toArray⟩, .int .i64 n, .int .i64 a, .slice g m cp]) (by simp [results, Tryz.results70, go_sem, s0, s1, s2, s3, s4]) rfl (hres.out ▸ hout.out)
theorem Qix (pb tb c lv i : Nat) (T : List Tok) (w : World) (r : Rd) (h : PS pb tb c T i lv w) (hne : left T r [[43], [45]] lv i ≠ .none) (hr : RdAt pb tb c T 188 r lv) :
  Calls Tryz.prog 161 #[.pointer (some ⟨pb, 0, none⟩)] w (POut pb tb c lv T w (left T r [[43], [45]] lv i)) := by
 have hA1 := (At.begin h).alloc z5 24
 have hA2 := hA1.junk (.cells (List.map (fun l : List UInt8 => Value.string ⟨l.toArray⟩) [[43], [45]]).toArray 9)
 have hwa := Q5j (w.alloc (.cells z5.toArray 24)) [[43], [45]]
 have hz : (w.alloc (.cells z5.toArray 24)).heap.size = w.heap.size + 1 := World.size_alloc _ _
 rw [hz] at hwa
 have hne2 : w.heap.size + 1 ≠ pb := by have := h.pos; omega
 have hcall := qh (fun hn => Q53 pb tb c i lv (w.heap.size + 1) [[43], [45]] T _ 188 #[.pointer (some ⟨pb, 0, none⟩)] #[] r (fun _ _ => rfl) hA2.ps hwa hne2 (by decide) hn (fun W i hp _ hn => hr W i hp hn))
 generalize left T r [[43], [45]] lv i = o at hne hcall ⊢
 clear hr h hwa hne2 hz
 go_enter Tryz.func161, Tryz.ntmps161
 go_wp2_with fail
 refine hA2.cRdr o.bind_ok hne hcall.out (fun _ _ h => ⟨rfl, h⟩) ?_
 intro kd tx n a kids j g m cp w3 hres hA3
 replace hres := qh hres
 have hsb := hA3.blk
 have hAz := hA3.setSyn (.int .i64 kd) (.string ⟨tx.toArray⟩) (.int .i64 n) (.int .i64 a) (.slice g m cp)
 obtain ⟨⟨⟨s0, s1, s2, s3, s4⟩, _⟩, _, _⟩ := hAz.c5
 have hout := qh (hAz.out (k := kd) (tx := tx) (n := n) (a := a) (List.mem_cons_self ..))
 clear hAz hA3
 go_wp21
 exact bodyPost_ret (v := .agg #[.int .i64 kd, .string ⟨tx.toArray⟩, .int .i64 n, .int .i64 a, .slice g m cp]) (by simp [results, Tryz.results161, go_sem, s0, s1, s2, s3, s4]) rfl (hres.out ▸ hout.out)
theorem Qov (pb tb c lv i : Nat) (T : List Tok) (w : World) (r : Rd) (h : PS pb tb c T i lv w) (hne : left T r [kOr] lv i ≠ .none) (hr : RdAt pb tb c T 71 r lv) :
  Calls Tryz.prog 36 #[.pointer (some ⟨pb, 0, none⟩)] w (POut pb tb c lv T w (left T r [kOr] lv i)) := by
 have hA1 := (At.begin h).alloc z5 24
 have hA2 := hA1.junk (.cells (List.map (fun l : List UInt8 => Value.string ⟨l.toArray⟩) [kOr]).toArray 9)
 have hwa := Q5j (w.alloc (.cells z5.toArray 24)) [kOr]
 have hz : (w.alloc (.cells z5.toArray 24)).heap.size = w.heap.size + 1 := World.size_alloc _ _
 rw [hz] at hwa
 have hne2 : w.heap.size + 1 ≠ pb := by have := h.pos; omega
 have hcall := qh (fun hn => Q53 pb tb c i lv (w.heap.size + 1) [kOr] T _ 71 #[.pointer (some ⟨pb, 0, none⟩)] #[] r (fun _ _ => rfl) hA2.ps hwa hne2 (by decide) hn (fun W i hp _ hn => hr W i hp hn))
 generalize left T r [kOr] lv i = o at hne hcall ⊢
 clear hr h hwa hne2 hz
 go_enter Tryz.func36, Tryz.ntmps36
 go_wp2_with fail
 refine hA2.cRdr o.bind_ok hne hcall.out (fun _ _ h => ⟨rfl, h⟩) ?_
 intro kd tx n a kids j g m cp w3 hres hA3
 replace hres := qh hres
 have hsb := hA3.blk
 have hAz := hA3.setSyn (.int .i64 kd) (.string ⟨tx.toArray⟩) (.int .i64 n) (.int .i64 a) (.slice g m cp)
 obtain ⟨⟨⟨s0, s1, s2, s3, s4⟩, _⟩, _, _⟩ := hAz.c5
 have hout := qh (hAz.out (k := kd) (tx := tx) (n := n) (a := a) (List.mem_cons_self ..))
 clear hAz hA3
 go_wp21
 exact bodyPost_ret (v := .agg #[.int .i64 kd, .string ⟨tx.toArray⟩, .int .i64 n, .int .i64 a, .slice g m cp]) (by simp [results, Tryz.results36, go_sem, s0, s1, s2, s3, s4]) rfl (hres.out ▸ hout.out)
theorem Qmk (pb tb c lv i : Nat) (T : List Tok) (w : World) (r : Rd) (h : PS pb tb c T i lv w) (hne : left T r [kAnd] lv i ≠ .none) (hr : RdAt pb tb c T 126 r lv) :
  Calls Tryz.prog 71 #[.pointer (some ⟨pb, 0, none⟩)] w (POut pb tb c lv T w (left T r [kAnd] lv i)) := by
 have hA1 := (At.begin h).alloc z5 24
 have hA2 := hA1.junk (.cells (List.map (fun l : List UInt8 => Value.string ⟨l.toArray⟩) [kAnd]).toArray 9)
 have hwa := Q5j (w.alloc (.cells z5.toArray 24)) [kAnd]
 have hz : (w.alloc (.cells z5.toArray 24)).heap.size = w.heap.size + 1 := World.size_alloc _ _
 rw [hz] at hwa
 have hne2 : w.heap.size + 1 ≠ pb := by have := h.pos; omega
 have hcall := qh (fun hn => Q53 pb tb c i lv (w.heap.size + 1) [kAnd] T _ 126 #[.pointer (some ⟨pb, 0, none⟩)] #[] r (fun _ _ => rfl) hA2.ps hwa hne2 (by decide) hn (fun W i hp _ hn => hr W i hp hn))
 generalize left T r [kAnd] lv i = o at hne hcall ⊢
 clear hr h hwa hne2 hz
 go_enter Tryz.func71, Tryz.ntmps71
 go_wp2_with fail
 refine hA2.cRdr o.bind_ok hne hcall.out (fun _ _ h => ⟨rfl, h⟩) ?_
 intro kd tx n a kids j g m cp w3 hres hA3
 replace hres := qh hres
 have hsb := hA3.blk
 have hAz := hA3.setSyn (.int .i64 kd) (.string ⟨tx.toArray⟩) (.int .i64 n) (.int .i64 a) (.slice g m cp)
 obtain ⟨⟨⟨s0, s1, s2, s3, s4⟩, _⟩, _, _⟩ := hAz.c5
 have hout := qh (hAz.out (k := kd) (tx := tx) (n := n) (a := a) (List.mem_cons_self ..))
 clear hAz hA3
 go_wp21
 exact bodyPost_ret (v := .agg #[.int .i64 kd, .string ⟨tx.toArray⟩, .int .i64 n, .int .i64 a, .slice g m cp]) (by simp [results, Tryz.results71, go_sem, s0, s1, s2, s3, s4]) rfl (hres.out ▸ hout.out)
theorem Qlq (pb tb c lv i : Nat) (T : List Tok) (w : World) (r : Rd) (h : PS pb tb c T i lv w) (hne : left T r [kOr] lv i ≠ .none) (hr : RdAt pb tb c T 127 r lv) :
  Calls Tryz.prog 72 #[.pointer (some ⟨pb, 0, none⟩)] w (POut pb tb c lv T w (left T r [kOr] lv i)) := by
 have hA1 := (At.begin h).alloc z5 24
 have hA2 := hA1.junk (.cells (List.map (fun l : List UInt8 => Value.string ⟨l.toArray⟩) [kOr]).toArray 9)
 have hwa := Q5j (w.alloc (.cells z5.toArray 24)) [kOr]
 have hz : (w.alloc (.cells z5.toArray 24)).heap.size = w.heap.size + 1 := World.size_alloc _ _
 rw [hz] at hwa
 have hne2 : w.heap.size + 1 ≠ pb := by have := h.pos; omega
 have hcall := qh (fun hn => Q53 pb tb c i lv (w.heap.size + 1) [kOr] T _ 127 #[.pointer (some ⟨pb, 0, none⟩)] #[] r (fun _ _ => rfl) hA2.ps hwa hne2 (by decide) hn (fun W i hp _ hn => hr W i hp hn))
 generalize left T r [kOr] lv i = o at hne hcall ⊢
 clear hr h hwa hne2 hz
 go_enter Tryz.func72, Tryz.ntmps72
 go_wp2_with fail
 refine hA2.cRdr o.bind_ok hne hcall.out (fun _ _ h => ⟨rfl, h⟩) ?_
 intro kd tx n a kids j g m cp w3 hres hA3
 replace hres := qh hres
 have hsb := hA3.blk
 have hAz := hA3.setSyn (.int .i64 kd) (.string ⟨tx.toArray⟩) (.int .i64 n) (.int .i64 a) (.slice g m cp)
 obtain ⟨⟨⟨s0, s1, s2, s3, s4⟩, _⟩, _, _⟩ := hAz.c5
 have hout := qh (hAz.out (k := kd) (tx := tx) (n := n) (a := a) (List.mem_cons_self ..))
 clear hAz hA3
 go_wp21
 exact bodyPost_ret (v := .agg #[.int .i64 kd, .string ⟨tx.toArray⟩, .int .i64 n, .int .i64 a, .slice g m cp]) (by simp [results, Tryz.results72, go_sem, s0, s1, s2, s3, s4]) rfl (hres.out ▸ hout.out)
theorem Qqc (pb tb c lv i : Nat) (T : List Tok) (w : World) (r : Rd) (h : PS pb tb c T i lv w) (hne : left T r [kAnd] lv i ≠ .none) (hr : RdAt pb tb c T 163 r lv) :
  Calls Tryz.prog 127 #[.pointer (some ⟨pb, 0, none⟩)] w (POut pb tb c lv T w (left T r [kAnd] lv i)) := by
 have hA1 := (At.begin h).alloc z5 24
 have hA2 := hA1.junk (.cells (List.map (fun l : List UInt8 => Value.string ⟨l.toArray⟩) [kAnd]).toArray 9)
 have hwa := Q5j (w.alloc (.cells z5.toArray 24)) [kAnd]
 have hz : (w.alloc (.cells z5.toArray 24)).heap.size = w.heap.size + 1 := World.size_alloc _ _
 rw [hz] at hwa
 have hne2 : w.heap.size + 1 ≠ pb := by have := h.pos; omega
 have hcall := qh (fun hn => Q53 pb tb c i lv (w.heap.size + 1) [kAnd] T _ 163 #[.pointer (some ⟨pb, 0, none⟩)] #[] r (fun _ _ => rfl) hA2.ps hwa hne2 (by decide) hn (fun W i hp _ hn => hr W i hp hn))
 generalize left T r [kAnd] lv i = o at hne hcall ⊢
 clear hr h hwa hne2 hz
 go_enter Tryz.func127, Tryz.ntmps127
 go_wp2_with fail
 refine hA2.cRdr o.bind_ok hne hcall.out (fun _ _ h => ⟨rfl, h⟩) ?_
 intro kd tx n a kids j g m cp w3 hres hA3
 replace hres := qh hres
 have hsb := hA3.blk
 have hAz := hA3.setSyn (.int .i64 kd) (.string ⟨tx.toArray⟩) (.int .i64 n) (.int .i64 a) (.slice g m cp)
 obtain ⟨⟨⟨s0, s1, s2, s3, s4⟩, _⟩, _, _⟩ := hAz.c5
 have hout := qh (hAz.out (k := kd) (tx := tx) (n := n) (a := a) (List.mem_cons_self ..))
 clear hAz hA3
 go_wp21
 exact bodyPost_ret (v := .agg #[.int .i64 kd, .string ⟨tx.toArray⟩, .int .i64 n, .int .i64 a, .slice g m cp]) (by simp [results, Tryz.results127, go_sem, s0, s1, s2, s3, s4]) rfl (hres.out ▸ hout.out)
section
attribute [local go_sem ↓] Go.wp_at_zero Go.wp_at_succ Q48
def Qh9 : List (List UInt8) := [[97, 108, 108], [115, 111, 109, 101]]
def wCmp : List (List UInt8) := [[61], [33, 61], [60], [60, 61]]
theorem Qm3 (pb tb c lv i f : Nat) (T : List Tok) (w : World) (h : PS pb tb c T i lv w) (hl : lv ≤ 128) (hne : rd Q0 T (f + 1) .neg lv i ≠ .none)
  (hneg : ∀ lv, lv ≤ 128 → RdAt pb tb c T 125 (rd Q0 T f .neg) lv) (hcond : ∀ lv, lv ≤ 128 → RdAt pb tb c T 35 (rd Q0 T f .cond) lv)
  (hsum : ∀ lv, lv ≤ 128 → RdAt pb tb c T 161 (rd Q0 T f .sum) lv) :
  Calls Tryz.prog 125 #[.pointer (some ⟨pb, 0, none⟩)] w (POut pb tb c lv T w (rd Q0 T (f + 1) .neg lv i)) := by
 have hA1 := (At.begin h).alloc z5 24
 have hres := qh (show rd Q0 T (f + 1) .neg lv i = if isW T [kNot] i then notR T (rd Q0 T f .neg) lv i
  else if isW T Qh9 i then
   (name Q0 T (nx T i)).bind fun v j => (need T [58] j).bind fun _ j => (within T (rd Q0 T f .cond) lv j).bind fun x j => .ok (.mk 13 (tk T i).text 0 (tk T i).pos [v, x]) j
  else (rd Q0 T f .sum lv i).bind fun x j =>
   if isW T wCmp j then (rd Q0 T f .sum lv (nx T j)).bind fun y l => .ok (binary (tk T j).text 0 x y) l
   else .ok x j from rfl)
 have hNot := qh (fun i W (hp : PS pb tb c T i lv W) hn => Qfk pb tb c i lv T W 125 #[.pointer (some ⟨pb, 0, none⟩)] #[] (rd Q0 T f .neg) (fun _ _ => rfl) hp (by omega) hn (fun hd W i hp ho hn => hneg (lv + 1) (by omega) W i hp hn))
 have hWith := qh (fun i W (hp : PS pb tb c T i lv W) hn => Q7c pb pb tb c i lv T W Tru 35 #[.pointer (some ⟨pb, 0, none⟩)] #[] (rd Q0 T f .cond) (fun _ _ => rfl) hp hp.pos (by omega) (Q4l _ _) hn (fun hd W i hp ho hn => hcond (lv + 1) (by omega) W i hp hn))
 replace hsum := qh (hsum lv hl)
 clear hneg hcond h
 generalize rd Q0 T (f + 1) .neg lv i = o at hres hne ⊢
 generalize hB : w.heap.size = B at *
 go_enter Tryz.func125, Tryz.ntmps125
 go_wp2_with fail
 refine hA1.cIs [kNot] (by decide) rfl rfl (by simp [hB]) ?_ ?_
 rotate_left
 ·intro hb w2 hA2
  have hres2 := qh (hres.out.trans (if_pos hb))
  go_wp2_with fail
  refine hA2.cRdr (hres2.out.trans (Out.bind_ok _)) hne (hNot.out _ _ hA2.ps) (fun _ _ h => ⟨rfl, h⟩) ?_
  intro kd tx n a kids j g m cp w3 hres3 hA3
  replace hres3 := qh hres3
  clear hNot hWith hsum
  have hsb := hA3.blk
  have hAz := hA3.setSyn (.int .i64 kd) (.string ⟨List.toArray (tx)⟩) (.int .i64 n) (.int .i64 a) (.slice g m cp)
  obtain ⟨⟨⟨s0, s1, s2, s3, s4⟩, _⟩, _, _⟩ := hAz.c5
  have hout := qh (hAz.out (k := kd) (tx := tx) (n := n) (a := a) (List.mem_cons_self ..))
  clear hAz
  go_wp21
  exact bodyPost_ret (v := .agg #[.int .i64 kd, .string ⟨List.toArray (tx)⟩, .int .i64 n, .int .i64 a, .slice g m cp]) (by simp [results, Tryz.results125, go_sem, s0, s1, s2, s3, s4]) rfl (hres3.out ▸ hout.out)
 intro hb w2 hA2
 replace hres := qh (hres.out.trans (if_neg (by rw [hb]; decide)))
 go_wp2_with fail
 refine hA2.cIs Qh9 (by decide) rfl rfl (by simp) ?_ ?_
 rotate_left
 ·intro hb w3 hA3
  have hres3 := qh (hres.out.trans (if_pos hb))
  clear hres hA1 hA2 hb hNot hsum
  go_wp2_with fail
  refine hA3.cNext ?_
  intro w4 hA4
  clear hA3
  go_wp2_with fail
  have hA5 := hA4.alloc [.int .i64 (tk T i).kind, .string ⟨(tk T i).text.toArray⟩, .int .i64 (tk T i).pos] 45
  generalize hw5 : w4.alloc _ = w5 at hA5 ⊢
  generalize w4.heap.size = M at *
  clear hw5
  have hA6 := hA5.drew
  obtain ⟨⟨⟨t0, t1, t2⟩, _⟩, lt⟩ := hA6.c3
  have hN := fun (_ : name Q0 T (nx T i) ≠ .none) => Q73 pb tb c (nx T i) lv T _ hA6.ps
  have s8 := And.intro t1 t2
  clear t0 t1 t2
  have hA6z := (hA5.alloc z5 24).drew
  have s7 : (w5.alloc (.cells #[.int .i64 0, .string ⟨#[]⟩, .int .i64 0, .int .i64 0, .slice none 0 0] 24)).drew.cell? ⟨M, 1, none⟩ = some (.string ⟨(tk T i).text.toArray⟩) ∧ (w5.alloc (.cells #[.int .i64 0, .string ⟨#[]⟩, .int .i64 0, .int .i64 0, .slice none 0 0] 24)).drew.cell? ⟨M, 2, none⟩ = some (.int .i64 (tk T i).pos) := ⟨(Q1k lt).trans s8.1, (Q1k lt).trans s8.2⟩
  have hNz := fun (_ : name Q0 T (nx T i) ≠ .none) => Q73 pb tb c (nx T i) lv T _ hA6z.ps
  refine' Q2s ?k ?f
  case f =>
   intro key
   go_region_held2 (fun w' => w'.cell? ⟨M, 1, none⟩ = some (.string ⟨(tk T i).text.toArray⟩) ∧ w'.cell? ⟨M, 2, none⟩ = some (.int .i64 (tk T i).pos))
    (with_reducible first | exact s8 | exact s9 | exact s7 | exact ⟨(Q1k l9).trans s9.1, (Q1k l9).trans s9.2⟩ | exact ⟨(Q1k (Q9n l9)).trans ((Q1k l9).trans s9.1), (Q1k (Q9n l9)).trans ((Q1k l9).trans s9.2)⟩ | exact ⟨(Q1e ne9).trans ((Q1k (Q9n l9)).trans ((Q1k l9).trans s9.1)), (Q1e ne9).trans ((Q1k (Q9n l9)).trans ((Q1k l9).trans s9.2))⟩ | exact ⟨(Q1e ne8).trans ((Q1k l9).trans s9.1), (Q1e ne8).trans ((Q1k l9).trans s9.2)⟩) (first
    | (go_at_call 123; (with_reducible refine hA6.cRdr hres3.out hne hN ?_ ?_); exact fun _ _ h => ⟨rfl, h⟩; intro kd tx n a kids j g m cp w7 hres7 hA7; replace hres7 := qh hres7; have l9 := hA7.c3.2; have s9 := hA7.c3.1.1.2; have ne9 : M ≠ w7.heap.size := Nat.ne_of_lt l9)
    | (go_at_call 123; (with_reducible refine hA6z.cRdr hres3.out hne hNz ?_ ?_); exact fun _ _ h => ⟨rfl, h⟩; intro kd tx n a kids j g m cp w7 hres7 hA7; replace hres7 := qh hres7; have l9 := hA7.swap.c3.2; have s9 := hA7.swap.c3.1.1.2; have ne8 : M ≠ w5.heap.size := Nat.ne_of_lt lt; have hsb := hA7.blk))
   ·rename_i hH; clear hH
    have hA8 := (hA7.open1 (k := kd) (n := n) (a := a) (tx := tx) (List.mem_cons_self ..)).alloc [.int .i64 13, .string ⟨(tk T i).text.toArray⟩, .int .i64 0, .int .i64 (tk T i).pos, .slice (some ⟨w7.heap.size, 0, none⟩) 1 1] 24
    rw [World.size_alloc] at hA8
    generalize World.alloc (World.alloc w7 _) _ = w8 at hA8 ⊢
    generalize w7.heap.size + 1 = M2 at hA8 ⊢
    generalize w7.heap.size = G at hA8 ⊢
    clear hA7 s9
    revert hA8
    revert hres7
    revert w8
    revert G
    revert M2
    revert cp m g j kids a n tx kd
    exact key.out
   ·rename_i hH; clear hH
    have hA8 := ((hA7.alloc z5 24).open1 (k := kd) (n := n) (a := a) (tx := tx) (List.mem_cons_self ..)).setSyn (.int .i64 13) (.string ⟨(tk T i).text.toArray⟩) (.int .i64 0) (.int .i64 (tk T i).pos) (.slice (some ⟨w7.heap.size + 1, 0, none⟩) 1 1)
    rw [World.size_alloc] at hA8
    generalize setSyn (World.alloc (World.alloc w7 _) _) _ _ _ _ _ _ = w8 at hA8 ⊢
    generalize w7.heap.size + 1 = G at hA8 ⊢
    generalize w7.heap.size = M2 at hA8 ⊢
    clear hA7 s9
    revert hA8
    revert hres7
    revert w8
    revert G
    revert M2
    revert cp m g j kids a n tx kd
    exact key.out
   ·rename_i hH; clear hH
    have hA8 := (hA7.open1 (k := kd) (n := n) (a := a) (tx := tx) (List.mem_cons_self ..)).setSyn (.int .i64 13) (.string ⟨(tk T i).text.toArray⟩) (.int .i64 0) (.int .i64 (tk T i).pos) (.slice (some ⟨w7.heap.size, 0, none⟩) 1 1)
    generalize setSyn (World.alloc w7 _) _ _ _ _ _ _ = w8 at hA8 ⊢
    generalize w7.heap.size = G at hA8 ⊢
    generalize w5.heap.size = M2 at hA8 ⊢
    clear hA7 s9
    revert hA8
    revert hres7
    revert w8
    revert G
    revert M2
    revert cp m g j kids a n tx kd
    exact key.out
  case k =>
   intro kd tx n a kids j g m cp M2 G w8 hres8 hA8
   go_wp2_with fail
   refine hA8.cNeed hres8.out (fun _ _ h => ⟨rfl, h⟩) ?_
   intro w9 hres9 hA9
   replace hres9 := qh hres9
   clear hA8 hres8
   go_wp2_with fail
   have hA10 := hA9.drew
   generalize hvr : Value.slice (some ⟨G, 0, none⟩) 1 1 = vrow at hA10
   clear hvr
   have hc10 := hA10.c5
   refine' Q2s ?k ?f
   case f =>
    intro key
    go_region_with (first
     | (go_at_call 76; (with_reducible refine hA10.cRdr hres9.out hne (hWith.out _ _ hA10.ps) ?_ ?_); exact fun _ _ h => ⟨rfl, h⟩; intro k2 tx2 n2 a2 kids2 j2 g2 m2 cp2 w11 hres11 hA11; replace hres11 := qh hres11; have hc11 := hA11.c5)
     | (refine At.stepApp' (hA11.junk _) (by simp) (List.mem_cons_self ..) (heap_alloc_new _ _) (by rfl) (by rfl) (by rfl) (by rfl) ?_; intro g12 cap12 w12 hA12; have hc12 := hA12.c5))
    all_goals
     have hA13 := hA12.set4 (.slice (some ⟨g12, 0, none⟩) 2 cap12)
     generalize World.setCell w12 _ _ = w13 at hA13 ⊢
     clear hA11 hA12 hc12 hc11
     generalize w11.heap.size = N11 at ⊢
     clear w11 w12
     revert hA13 hres11
     revert w13
     revert N11
     revert g12
     revert cap12
     revert cp2 m2 g2 j2 kids2 a2 n2 tx2 k2
     exact key.out
   case k =>
    intro k2 tx2 n2 a2 kids2 j2 g2 m2 cp2 cap12 g12 N11 w13 hres11 hA13
    have hA14 := hA13.close.swap.drop
    obtain ⟨⟨⟨l0, l1, l2, l3, l4⟩, _⟩, _, _⟩ := hA14.c5
    have hA15 := hA14.swap
    clear hA9 hA10 hA13 hA14
    have hsb := hA15.blk
    have hAz := hA15.setSyn (.int .i64 13) (.string ⟨List.toArray ((tk T i).text)⟩) (.int .i64 0) (.int .i64 (tk T i).pos) (.slice (some ⟨g12, 0, none⟩) 2 cap12)
    obtain ⟨⟨⟨s0, s1, s2, s3, s4⟩, _⟩, _, _⟩ := hAz.c5
    have hout := qh (hAz.out (k := 13) (tx := (tk T i).text) (n := 0) (a := (tk T i).pos) (List.mem_cons_self ..))
    clear hAz
    go_wp21
    exact bodyPost_ret (v := .agg #[.int .i64 13, .string ⟨List.toArray ((tk T i).text)⟩, .int .i64 0, .int .i64 (tk T i).pos, .slice (some ⟨g12, 0, none⟩) 2 cap12]) (by simp [results, Tryz.results125, go_sem, s0, s1, s2, s3, s4]) rfl (hres11.out ▸ hout.out)
 intro hb w3 hA3
 replace hres := qh (hres.out.trans (if_neg (by rw [hb]; decide)))
 clear hb hA1 hA2 hNot hWith
 go_wp2_with fail
 refine hA3.cRdr hres.out hne (hsum.out _ _ hA3.ps) (fun _ _ h => ⟨rfl, h⟩) ?_
 intro kd tx n a kids j g m cp w4 hres4 hA4
 replace hres4 := qh hres4
 clear hA3 hres
 go_wp2_with fail
 have hA5 := hA4.alloc [.int .i64 kd, .string ⟨tx.toArray⟩, .int .i64 n, .int .i64 a, .slice g m cp] 24
 refine hA5.cIs wCmp (by decide) rfl rfl (by simp) ?_ ?_
 ·intro hb w5 hA6
  have hres5 := qh (hres4.out.trans (if_neg (by rw [hb]; decide)))
  obtain ⟨⟨⟨l0, l1, l2, l3, l4⟩, _⟩, _, _⟩ := hA6.c5
  have hA7 := hA6.swap
  clear hA4 hA5 hA6
  have hsb := hA7.blk
  have hAz := hA7.setSyn (.int .i64 kd) (.string ⟨List.toArray (tx)⟩) (.int .i64 n) (.int .i64 a) (.slice g m cp)
  obtain ⟨⟨⟨s0, s1, s2, s3, s4⟩, _⟩, _, _⟩ := hAz.c5
  have hout := qh (hAz.out (k := kd) (tx := tx) (n := n) (a := a) (List.mem_cons_self ..))
  clear hAz
  go_wp21
  exact bodyPost_ret (v := .agg #[.int .i64 kd, .string ⟨List.toArray (tx)⟩, .int .i64 n, .int .i64 a, .slice g m cp]) (by simp [results, Tryz.results125, go_sem, s0, s1, s2, s3, s4]) rfl (hres5.out ▸ hout.out)
 ·intro hb w5 hA6
  have hres5 := qh (hres4.out.trans (if_pos hb))
  clear hA4 hA5 hres4 hb
  generalize w4.heap.size = M at *
  go_wp2_with fail
  have hA7 := hA6.drew
  have hc7 := hA7.c5
  refine' Q2s ?k ?f
  case f =>
   intro key
   go_region_with (first
    | (go_at_call 74; refine hA7.cNext ?_; intro w8 hA8; have hc8 := hA8.c5)
    | (go_at_call 75; refine hA9.cBin (List.mem_cons_of_mem _ (List.mem_cons_self ..)) (List.mem_cons_self ..) ?_; intro g10 m10 cp10 w10 hA10; have hsb10 := hA10.blk)
    | (go_at_call 161; refine hA8.cRdr hres5.out hne (hsum.out _ _ hA8.ps) (fun _ _ h => ⟨rfl, h⟩) ?_; intro k2 tx2 n2 a2 kids2 j2 g2 m2 cp2 w9 hres9 hA9; replace hres9 := qh hres9; have hc9 := hA9.c5))
   all_goals
    have hA11 := hA10.setSyn (.int .i64 11) (.string ⟨(tk T j).text.toArray⟩) (.int .i64 0) (.int .i64 a) (.slice g10 m10 cp10)
    generalize setSyn w10 _ _ _ _ _ _ = w11 at hA11 ⊢
    clear hA8 hA9 hA10 hsb10 hc8 hc9
    clear w8 w9 w10
    revert hA11 hres9
    revert w11
    revert g10
    revert m10
    revert cp10
    revert cp2 m2 g2 j2 kids2 a2 n2 tx2 k2
    exact key.out
  case k =>
   intro k2 tx2 n2 a2 kids2 j2 g2 m2 cp2 cp10 m10 g10 w11 hres9 hA11
   have hc11 := hA11.c5
   have hA12 := hA11.swap
   clear hA6 hA7 hA11
   have hsb := hA12.blk
   have hAz := hA12.setSyn (.int .i64 11) (.string ⟨List.toArray ((tk T j).text)⟩) (.int .i64 0) (.int .i64 a) (.slice g10 m10 cp10)
   obtain ⟨⟨⟨s0, s1, s2, s3, s4⟩, _⟩, _, _⟩ := hAz.c5
   have hout := qh (hAz.out (k := 11) (tx := (tk T j).text) (n := 0) (a := a) (List.mem_cons_self ..))
   clear hAz
   go_wp21
   exact bodyPost_ret (v := .agg #[.int .i64 11, .string ⟨List.toArray ((tk T j).text)⟩, .int .i64 0, .int .i64 a, .slice g10 m10 cp10]) (by simp [results, Tryz.results125, go_sem, s0, s1, s2, s3, s4]) rfl (hres9.out ▸ hout.out)
end
section
attribute [local go_sem ↓] Go.wp_at_zero Go.wp_at_succ
theorem Qnt (pb tb c lv i f : Nat) (T : List Tok) (w : World) (h : PS pb tb c T i lv w) (hl : lv ≤ 128) (hne : rd Q0 T (f + 1) .factor lv i ≠ .none)
  (hatom : ∀ lv, lv ≤ 128 → RdAt pb tb c T 162 (rd Q0 T f .atom) lv)
  (hfac : ∀ lv, lv ≤ 128 → RdAt pb tb c T 126 (rd Q0 T f .factor) lv) :
  Calls Tryz.prog 126 #[.pointer (some ⟨pb, 0, none⟩)] w (POut pb tb c lv T w (rd Q0 T (f + 1) .factor lv i)) := by
 have hA1 := (At.begin h).alloc z5 24
 have hres := qh (show rd Q0 T (f + 1) .factor lv i = (rd Q0 T f .atom lv i).bind fun x j =>
  if isW T [[116, 104, 101, 110]] j then (number T (nx T j)).bind fun n j => (within T (rd Q0 T f .factor) lv j).bind fun y j => .ok (binary [116, 104, 101, 110] n.num x y) j
  else .ok x j from rfl)
 have hWith := qh (fun i W (hp : PS pb tb c T i lv W) hn => Q7c pb pb tb c i lv T W Tru 126 #[.pointer (some ⟨pb, 0, none⟩)] #[] (rd Q0 T f .factor) (fun _ _ => rfl) hp hp.pos (by omega) (Q4l _ _) hn (fun hd W i hp ho hn => hfac (lv + 1) (by omega) W i hp hn))
 replace hatom := qh (hatom lv hl)
 clear hfac h
 generalize rd Q0 T (f + 1) .factor lv i = o at hres hne ⊢
 generalize hB : w.heap.size = B at *
 go_enter Tryz.func126, Tryz.ntmps126
 go_wp2_with fail
 refine hA1.cRdr hres.out hne (hatom.out _ _ hA1.ps) (fun _ _ h => ⟨rfl, h⟩) ?_
 intro kd tx n a kids j g m cp w2 hres2 hA2
 replace hres2 := qh hres2
 clear hA1 hres
 go_wp2_with fail
 have hA3 := hA2.alloc [.int .i64 kd, .string ⟨tx.toArray⟩, .int .i64 n, .int .i64 a, .slice g m cp] 24
 refine hA3.cIs [[116, 104, 101, 110]] (by simp) rfl rfl (by simp) ?_ ?_
 ·intro hb w4 hA4
  have hres4 := qh (hres2.out.trans (if_neg (by rw [hb]; decide)))
  have hc4 := hA4.c5
  have hA5 := hA4.swap
  clear hA2 hA3 hA4
  have hsb := hA5.blk
  have hAz := hA5.setSyn (.int .i64 kd) (.string ⟨List.toArray (tx)⟩) (.int .i64 n) (.int .i64 a) (.slice g m cp)
  obtain ⟨⟨⟨s0, s1, s2, s3, s4⟩, _⟩, _, _⟩ := hAz.c5
  have hout := qh (hAz.out (k := kd) (tx := tx) (n := n) (a := a) (List.mem_cons_self ..))
  clear hAz
  go_wp21
  exact bodyPost_ret (v := .agg #[.int .i64 kd, .string ⟨List.toArray (tx)⟩, .int .i64 n, .int .i64 a, .slice g m cp]) (by simp [results, Tryz.results126, go_sem, s0, s1, s2, s3, s4]) rfl (hres4.out ▸ hout.out)
 ·intro hb w4 hA4
  have hres4 := qh (hres2.out.trans (if_pos hb))
  clear hA2 hA3 hres2 hb
  have hBM : B ≠ w2.heap.size := fun e => (List.nodup_cons.1 hA4.nd).1 (by simp [e])
  generalize w2.heap.size = M at *
  go_wp2_with fail
  refine hA4.cNext ?_
  intro w5 hA5
  clear hA4
  go_wp2_with fail
  refine hA5.cRdr hres4.out hne (fun _ => Q7h pb tb c _ lv T _ hA5.ps) (fun _ _ h => ⟨rfl, h⟩) ?_
  intro k3 tx3 n3 a3 kids3 j3 g3 m3 cp3 w6 hres6 hA6
  replace hres6 := qh hres6
  clear hA5 hres4
  go_wp2_with fail
  have hA7 := hA6.drew
  have hc7 := hA7.c5.1.1
  go_region_held2 (fun w' => w'.cell? ⟨M, 0, none⟩ = some (.int .i64 kd) ∧ w'.cell? ⟨M, 1, none⟩ = some (.string ⟨tx.toArray⟩) ∧ w'.cell? ⟨M, 2, none⟩ = some (.int .i64 n) ∧ w'.cell? ⟨M, 3, none⟩ = some (.int .i64 a) ∧ w'.cell? ⟨M, 4, none⟩ = some (.slice g m cp))
   (with_reducible first | exact hc7 | exact hc8 | exact hc9 | exact ⟨(Q1e hBM.symm).trans hc9.1, (Q1e hBM.symm).trans hc9.2.1, (Q1e hBM.symm).trans hc9.2.2.1, (Q1e hBM.symm).trans hc9.2.2.2.1, (Q1e hBM.symm).trans hc9.2.2.2.2⟩)
   (first
    | (go_at_call 76; refine hA7.cRdr hres6.out hne (hWith.out _ _ hA7.ps) (fun _ _ h => ⟨rfl, h⟩) ?_; intro k2 tx2 n2 a2 kids2 j2 g2 m2 cp2 w8 hres8 hA8; replace hres8 := qh hres8; have hc8 := hA8.c5.1.1)
    | (go_at_call 75; refine hA8.cBin (List.mem_cons_of_mem _ (List.mem_cons_of_mem _ (List.mem_cons_self ..))) (List.mem_cons_self ..) ?_; intro g9 m9 cp9 w9 hA9; have hc9 := hA9.c5.1.1; have hsb9 := hA9.swap.blk))
  rename_i hH; clear hH
  have hAz := hA9.swap.setSyn (.int .i64 11) (.string ⟨#[116, 104, 101, 110]⟩) (.int .i64 n3) (.int .i64 a) (.slice g9 m9 cp9)
  obtain ⟨⟨⟨s0, s1, s2, s3, s4⟩, _⟩, _, _⟩ := hAz.c5
  have hout := qh (hAz.out (k := 11) (tx := [116, 104, 101, 110]) (n := n3) (a := a) (List.mem_cons_self ..))
  clear hAz hA7 hA8 hA9 hc7 hc8 hc9 hA6
  go_wp21
  exact bodyPost_ret (v := .agg #[.int .i64 11, .string ⟨#[116, 104, 101, 110]⟩, .int .i64 n3, .int .i64 a, .slice g9 m9 cp9]) (by simp [results, Tryz.results126, go_sem, s0, s1, s2, s3, s4]) rfl (hres8.out ▸ hout.out)
theorem Qo9 (pb tb c lv i f : Nat) (T : List Tok) (w : World) (h : PS pb tb c T i lv w) (hl : lv ≤ 128) (hne : rd Q0 T (f + 1) .formula lv i ≠ .none)
  (hdisj : ∀ lv, lv ≤ 128 → RdAt pb tb c T 72 (rd Q0 T f .disj) lv)
  (hfor : ∀ lv, lv ≤ 128 → RdAt pb tb c T 37 (rd Q0 T f .formula) lv) :
  Calls Tryz.prog 37 #[.pointer (some ⟨pb, 0, none⟩)] w (POut pb tb c lv T w (rd Q0 T (f + 1) .formula lv i)) := by
 have hA1 := (At.begin h).alloc z5 24
 have hres := qh (show rd Q0 T (f + 1) .formula lv i = (rd Q0 T f .disj lv i).bind fun x j =>
  if isW T [[117, 110, 116, 105, 108]] j then (within T (rd Q0 T f .formula) lv (nx T j)).bind fun y j => .ok (binary [117, 110, 116, 105, 108] 0 x y) j
  else .ok x j from rfl)
 have hWith := qh (fun i W (hp : PS pb tb c T i lv W) hn => Q7c pb pb tb c i lv T W Tru 37 #[.pointer (some ⟨pb, 0, none⟩)] #[] (rd Q0 T f .formula) (fun _ _ => rfl) hp hp.pos (by omega) (Q4l _ _) hn (fun hd W i hp ho hn => hfor (lv + 1) (by omega) W i hp hn))
 replace hdisj := qh (hdisj lv hl)
 clear hfor h
 generalize rd Q0 T (f + 1) .formula lv i = o at hres hne ⊢
 generalize hB : w.heap.size = B at *
 go_enter Tryz.func37, Tryz.ntmps37
 go_wp2_with fail
 refine hA1.cRdr hres.out hne (hdisj.out _ _ hA1.ps) (fun _ _ h => ⟨rfl, h⟩) ?_
 intro kd tx n a kids j g m cp w2 hres2 hA2
 replace hres2 := qh hres2
 clear hA1 hres
 go_wp2_with fail
 have hA3 := hA2.alloc [.int .i64 kd, .string ⟨tx.toArray⟩, .int .i64 n, .int .i64 a, .slice g m cp] 24
 refine hA3.cIs [[117, 110, 116, 105, 108]] (by simp) rfl rfl (by simp) ?_ ?_
 ·intro hb w4 hA4
  have hres4 := qh (hres2.out.trans (if_neg (by rw [hb]; decide)))
  have hc4 := hA4.c5
  have hA5 := hA4.swap
  clear hA2 hA3 hA4
  have hsb := hA5.blk
  have hAz := hA5.setSyn (.int .i64 kd) (.string ⟨List.toArray (tx)⟩) (.int .i64 n) (.int .i64 a) (.slice g m cp)
  obtain ⟨⟨⟨s0, s1, s2, s3, s4⟩, _⟩, _, _⟩ := hAz.c5
  have hout := qh (hAz.out (k := kd) (tx := tx) (n := n) (a := a) (List.mem_cons_self ..))
  clear hAz
  go_wp21
  exact bodyPost_ret (v := .agg #[.int .i64 kd, .string ⟨List.toArray (tx)⟩, .int .i64 n, .int .i64 a, .slice g m cp]) (by simp [results, Tryz.results37, go_sem, s0, s1, s2, s3, s4]) rfl (hres4.out ▸ hout.out)
 ·intro hb w4 hA4
  have hres4 := qh (hres2.out.trans (if_pos hb))
  clear hA2 hA3 hres2 hb
  generalize w2.heap.size = M at *
  go_wp2_with fail
  refine hA4.cNext ?_
  intro w5 hA5
  clear hA4
  go_wp2_with fail
  have hA7 := hA5.drew
  have hc7 := hA7.c5
  refine' Q2s ?k ?f
  case f =>
   intro key
   go_region_with (first
    | (go_at_call 76; refine hA7.cRdr hres4.out hne (hWith.out _ _ hA7.ps) (fun _ _ h => ⟨rfl, h⟩) ?_; intro k2 tx2 n2 a2 kids2 j2 g2 m2 cp2 w8 hres8 hA8; replace hres8 := qh hres8; have hc8 := hA8.c5)
    | (go_at_call 75; refine hA8.cBin (List.mem_cons_of_mem _ (List.mem_cons_self ..)) (List.mem_cons_self ..) ?_; intro g9 m9 cp9 w9 hA9; have hsb9 := hA9.blk))
   all_goals
    have hA10 := hA9.setSyn (.int .i64 11) (.string ⟨#[117, 110, 116, 105, 108]⟩) (.int .i64 0) (.int .i64 a) (.slice g9 m9 cp9)
    generalize setSyn w9 _ _ _ _ _ _ = w10 at hA10 ⊢
    clear hA8 hA9 hsb9 hc8
    clear w8 w9
    revert hA10 hres8
    revert w10
    revert g9
    revert m9
    revert cp9
    revert cp2 m2 g2 j2 kids2 a2 n2 tx2 k2
    exact key.out
  case k =>
   intro k2 tx2 n2 a2 kids2 j2 g2 m2 cp2 cp9 m9 g9 w10 hres8 hA10
   have hc10 := hA10.c5
   have hA11 := hA10.swap
   clear hA5 hA7 hA10 hc7
   have hsb := hA11.blk
   have hAz := hA11.setSyn (.int .i64 11) (.string ⟨List.toArray ([117, 110, 116, 105, 108])⟩) (.int .i64 0) (.int .i64 a) (.slice g9 m9 cp9)
   obtain ⟨⟨⟨s0, s1, s2, s3, s4⟩, _⟩, _, _⟩ := hAz.c5
   have hout := qh (hAz.out (k := 11) (tx := [117, 110, 116, 105, 108]) (n := 0) (a := a) (List.mem_cons_self ..))
   clear hAz
   go_wp21
   exact bodyPost_ret (v := .agg #[.int .i64 11, .string ⟨List.toArray ([117, 110, 116, 105, 108])⟩, .int .i64 0, .int .i64 a, .slice g9 m9 cp9]) (by simp [results, Tryz.results37, go_sem, s0, s1, s2, s3, s4]) rfl (hres8.out ▸ hout.out)
end
end Go.Proofs.YtplbfmcgddnkeaaGreatDoor
