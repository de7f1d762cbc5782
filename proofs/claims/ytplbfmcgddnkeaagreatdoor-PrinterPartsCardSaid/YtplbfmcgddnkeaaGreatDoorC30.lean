/- Walks of functions, and plain facts. -/
import Derived.Test.YtplbfmcgddnkeaaGreatDoorC23
import Derived.Test.YtplbfmcgddnkeaaGreatDoorC09
import Derived.Test.YtplbfmcgddnkeaaGreatDoorC14
import Derived.Test.YtplbfmcgddnkeaaGreatDoorC29
import Derived.Test.YtplbfmcgddnkeaaGreatDoorC15
import Derived.Test.YtplbfmcgddnkeaaGreatDoorC07
import Derived.Test.YtplbfmcgddnkeaaGreatDoorC16
import Derived.Test.YtplbfmcgddnkeaaGreatDoorC03
set_option linter.unusedVariables false
set_option linter.unusedSimpArgs false
set_option maxHeartbeats 20000000
set_option maxRecDepth 100000
namespace Go.Proofs.YtplbfmcgddnkeaaGreatDoor
open Go.RowKit
def errO (o : Out Syn) : Nat := match o with | .err _ e => e | _ => 0
def Q00 (w : World) (r : List UInt8 × Nat) (e : Ending) (w' : World) : Prop := e = .returned (.tuple #[.string ⟨r.1.toArray⟩, .int .i64 r.2]) ∧ Below w.heap.size w w'
def Q1l (ok : Bool) (s : List UInt8) (o : Out Syn) : List UInt8 × Nat := if ok then if 65536 < s.length then ([], 13) else if errO o = 0 then (s, 0) else ([], errO o) else ([], 3)
theorem Qal {W w' : World} {o : Out Syn} {e : Ending} (h : PRes W o e w') : Below W.heap.size W w' ∧ ∃ (kd n a z : Int) (tx : List UInt8) (p : Option Addr) (m c : Nat), e = .returned (.tuple #[(Value.agg #[.int .i64 kd, .string ⟨List.toArray tx⟩, .int .i64 n, .int .i64 a, .slice p m c]), .int .i64 z, .int .i64 (errO o)]) := by
 obtain ⟨hb, h⟩ := h
 refine ⟨hb, ?_⟩
 cases o with
 | none => exact h.elim
 | err p x => exact ⟨0, 0, 0, p, [], none, 0, 0, h⟩
 | ok t i =>
  obtain ⟨v, h1, kv, rfl, hk⟩ := h
  obtain ⟨p, c, rfl, -⟩ := Qbi hk
  exact ⟨_, _, _, _, _, _, _, _, h1⟩
abbrev zWr : Obj := .cells #[.pointer none, .slice none 0 0] 77
theorem Qah (w : World) : IsWr w.heap.size w.heap.size [] (w.alloc zWr) := Lib.fresh_isBuilder 77 5 w
theorem Qc3 {k : Nat} (hk : k ≤ 2) {t : Syn} (hM : Mod t) {q : Option Addr} {d : Nat} {w : World} (hg : Q0q w) (hsp : Q0p w) (hks : KidR w t.kids (.slice q t.kids.length d)) (W : World) (hb : Below w.heap.size w W) :
  Calls Tryz.prog 56 #[.int .i64 k, Q3 t q d] W (Q6 W (okP k t)) := Qrc t hM k hk q d W (Q72 hg hb) (hsp.below hb) (hks.low hb)
theorem Qjk (t : Syn) (hM : Mod t) (q : Option Addr) (d : Nat) (w : World) (hE : PEnv w) (ht : TabW w) (hks : KidR w t.kids (.slice q t.kids.length d)) (hbig : okP 0 t = true → (wrN 0 t).length ≤ 140737488355328 ∧ wrN 0 t ≠ []) :
  Calls Tryz.prog 31 #[.int .i64 0, Q3 t q d, .func (.func 20) #[] #[]] w (Q00 w (Q1l (okP 0 t) (wrN 0 t) (Qa (wrN 0 t) (rdO .cond)))) := by
 have hV := fun W (hb : Below w.heap.size w W) => (show Calls Tryz.prog 56 #[.int .i64 0, Q3 t q d] W (Q6 W (okP 0 t)) from Qc3 (k := 0) (by omega) hM hE.signs hE.space hks W hb)
 have hN : okP 0 t = true → ∀ B b l W w1, WSt w w1 B b l W → l.length + (wrN 0 t).length ≤ 140737488355328 → Calls Tryz.prog 57 #[.pointer (some ⟨b, 0, none⟩), .int .i64 0, Q3 t q d] W fun e w' => e = .returned (.tuple #[]) ∧ WSt w w1 B b (l ++ wrN 0 t) w' :=
  fun ho B b l W w1 h hl => Qab ht B b t hM 0 (by omega) (Or.inl ho) q d hks w1 l W h hl
 have hR : (wrN 0 t).length ≤ 65536 → ∀ W, Below w.heap.size w W → Calls Tryz.prog 20 #[.string ⟨(wrN 0 t).toArray⟩] W fun e w' => Below W.heap.size W w' ∧ ∃ (kd n a z : Int) (tx : List UInt8) (p : Option Addr) (m c : Nat), e = .returned (.tuple #[(Value.agg #[.int .i64 kd, .string ⟨List.toArray tx⟩, .int .i64 n, .int .i64 a, .slice p m c]), .int .i64 z, .int .i64 (errO (Qa (wrN 0 t) (rdO .cond)))]) :=
  fun hl W hb => (Qe2 _ W (by omega) (hE.below hb)).mono fun e w' h => Qal h
 generalize Qa (wrN 0 t) (rdO .cond) = o at *
 generalize wrN 0 t = txt at *
 generalize okP 0 t = ok at *
 obtain ⟨res, hres⟩ : ∃ r, Hid (r = Q1l ok txt o) := ⟨_, qh rfl⟩
 rw [← hres.out]
 obtain ⟨er, her⟩ : ∃ r, Hid (r = errO o) := ⟨_, qh rfl⟩
 rw [← her.out] at hR
 replace hres := qh (hres.out.trans (show _ = (if ok then if 65536 < txt.length then (([] : List UInt8), 13) else if errO o = 0 then (txt, 0) else ([], errO o) else ([], 3)) from rfl))
 rw [← her.out] at hres
 clear her
 obtain ⟨kd, tx, n, a, ks⟩ := t
 replace hV : ∀ W (hb : Below w.heap.size w W), Calls Tryz.prog 56 #[.int .i64 0, (Value.agg #[.int .i64 kd, .string ⟨List.toArray tx⟩, .int .i64 n, .int .i64 a, .slice q ks.length d])] W (Q6 W ok) := hV
 replace hN : ok = true → ∀ B b l W w1, WSt w w1 B b l W → l.length + txt.length ≤ 140737488355328 → Calls Tryz.prog 57 #[.pointer (some ⟨b, 0, none⟩), .int .i64 0, (Value.agg #[.int .i64 kd, .string ⟨List.toArray tx⟩, .int .i64 n, .int .i64 a, .slice q ks.length d])] W fun e w' => e = .returned (.tuple #[]) ∧ WSt w w1 B b (l ++ txt) w' := hN
 show Calls Tryz.prog 31 #[.int .i64 0, (Value.agg #[.int .i64 kd, .string ⟨List.toArray tx⟩, .int .i64 n, .int .i64 a, .slice q ks.length d]), .func (.func 20) #[] #[]] w (Q00 w res)
 clear hks hM hE ht
 generalize ks.length = m at *
 replace hV := qh hV
 replace hN := qh hN
 replace hR := qh hR
 replace hbig := qh hbig
 have hB := Qf w kd tx n a q m d
 have hC := five (Qg w kd tx n a q m d)
 have hsz : (boxed w kd tx n a q m d).heap.size = w.heap.size + 1 := World.size_alloc ..
 have hw := Qah (boxed w kd tx n a q m d)
 have hB2 : Below w.heap.size w ((boxed w kd tx n a q m d).alloc zWr) := hB.alloc (by rw [hsz]; omega) _
 have hC2 := Qs hC ((Below.refl _ _).alloc (Nat.le_refl _) zWr)
 rw [hsz] at hw
 clear hB hC hsz
 unfold boxed zWr at hw hB2 hC2
 go_enter Tryz.func31, Tryz.ntmps31
 go_upto_region 11 with (fail)
 generalize World.alloc (World.alloc w _) _ = w1 at hw hB2 hC2 ⊢
 have hBb : w.heap.size ≤ w.heap.size + 1 := Nat.le_succ _
 generalize w.heap.size + 1 = b at hw hBb ⊢
 obtain ⟨c0, c1, c2, c3, c4⟩ := hC2
 replace hw := qh hw
 replace hB2 := qh hB2
 cases ok with
 | false =>
  go_wp2_with (first | (go_at_call 56; (with_reducible refine (hV.out _ hB2.out).mono ?_); rintro e x2 ⟨rfl, b2⟩))
  all_goals
   go_ret2
   refine ⟨?_, hB2.out.trans (b2.mono hB2.out.size)⟩
   rw [hres.out]
   rfl
 | true =>
  obtain ⟨hbl, hne⟩ := hbig.out (by first | rfl | trivial)
  replace hres := qh (hres.out.trans (if_pos rfl))
  go_wp2_with (first | (go_at_call 56; (with_reducible refine (hV.out _ hB2.out).mono ?_); rintro e x2 ⟨rfl, b2⟩; obtain ⟨d0, d1, d2, d3, d4⟩ := Qs ⟨c0, c1, c2, c3, c4⟩ b2))
  have hst := WSt.begin (w0 := w) (Q5o hw.out b2) (hB2.out.trans (b2.mono hB2.out.size)) hBb (Nat.le_of_lt (Q0o (Q5o hw.out b2)).2)
  have hN2 := hN.out (by first | rfl | trivial) b b [] x2 x2 hst (by simpa using hbl)
  rw [List.nil_append] at hN2
  replace hN2 := qh hN2
  go_wp2_with (first | (go_at_call 57; (with_reducible refine (hN2.out).mono ?_); rintro e x3 ⟨rfl, hst3⟩))
  have hT := Qc8 hst3.wr hne
  have hL := Qao b b txt x3 hT
  have hB3 := qh hst3.tree
  have hbB := hst3.low
  replace hst3 := qh hst3
  by_cases hl : 65536 < txt.length
  ·replace hres := qh (hres.out.trans (if_pos hl))
   have hli : (65536 : Int) < txt.length := by omega
   replace hL := qh hL
   go_wp2_with (first | (go_at_call 58; (with_reducible refine (hL.out).mono ?_); rintro e w' ⟨rfl, rfl⟩))
   all_goals
    go_ret2
    refine ⟨?_, hB3.out⟩
    rw [hres.out]
    rfl
  ·replace hres := qh (hres.out.trans (if_neg hl))
   have hli : ¬ (65536 : Int) < txt.length := by omega
   have hS1 := qh (Q6k b b txt x3 hT hne)
   replace hL := qh hL
   replace hT := qh hT
   have hRl := qh (hR.out (by omega))
   go_wp2_with (first | (go_at_call 58; (with_reducible refine (hL.out).mono ?_); rintro e w' ⟨rfl, rfl⟩) | (go_at_call 59; (with_reducible refine (hS1.out).mono ?_); rintro e x4 ⟨rfl, hT4, b4⟩; have hB4 := qh (hB3.out.trans (b4.mono hbB))))
   by_cases her : er = 0
   ·have hei : (er : Int) = 0 := by omega
    replace hres := qh (hres.out.trans (if_pos her))
    clear her
    go_wp2_with (first | (go_at_call 20; (with_reducible refine (hRl.out _ hB4.out).mono ?_); rintro e x5 ⟨b5, kd', n', a', z', tx', p', m', c', rfl⟩; have hB5 := qh (hB4.out.trans (b5.mono hB4.out.size)); have hS2 := qh (fun W (h : Below x5.heap.size x5 W) => Q6k b b txt W ((hT4.low b5).low h) hne)) | (go_at_call 59; (with_reducible refine (hS2.out _ ((Below.refl _ _).alloc (Nat.le_refl _) _)).mono ?_); rintro e x6 ⟨rfl, hT6, b6⟩))
    all_goals
     go_ret2
     refine ⟨?_, (hB5.out.alloc hB5.out.size _).trans (b6.mono hbB)⟩
     rw [hres.out]
     rfl
   ·have hei : ¬ (er : Int) = 0 := by omega
    replace hres := qh (hres.out.trans (if_neg her))
    go_wp2_with (first | (go_at_call 20; (with_reducible refine (hRl.out _ hB4.out).mono ?_); rintro e x5 ⟨b5, kd', n', a', z', tx', p', m', c', rfl⟩; have hB5 := qh (hB4.out.trans (b5.mono hB4.out.size))))
    all_goals
     go_ret2
     refine ⟨?_, hB5.out.alloc hB5.out.size _⟩
     rw [hres.out]
     rfl
theorem Qc1 (t : Syn) (hM : Mod t) (q : Option Addr) (d : Nat) (w : World) (hE : PEnv w) (ht : TabW w) (hks : KidR w t.kids (.slice q t.kids.length d)) (hbig : okP 0 t = true → (wrN 0 t).length ≤ 140737488355328 ∧ wrN 0 t ≠ []) :
  Calls Tryz.prog 11 #[Q3 t q d] w (Q00 w (Q1l (okP 0 t) (wrN 0 t) (Qa (wrN 0 t) (rdO .cond)))) := by
 have hT := fun W (hb : Below w.heap.size w W) => Qjk t hM q d W (hE.below hb) (Q2b ht hb) (hks.low hb) hbig
 generalize Q1l (okP 0 t) (wrN 0 t) (Qa (wrN 0 t) (rdO .cond)) = res at *
 obtain ⟨kd, tx, n, a, ks⟩ := t
 replace hT : ∀ W (hb : Below w.heap.size w W), Calls Tryz.prog 31 #[.int .i64 0, (Value.agg #[.int .i64 kd, .string ⟨List.toArray tx⟩, .int .i64 n, .int .i64 a, .slice q ks.length d]), .func (.func 20) #[] #[]] W (Q00 W res) := hT
 show Calls Tryz.prog 11 #[(Value.agg #[.int .i64 kd, .string ⟨List.toArray tx⟩, .int .i64 n, .int .i64 a, .slice q ks.length d])] w (Q00 w res)
 clear hbig hks hM hE ht
 generalize ks.length = m at *
 replace hT := qh hT
 have hB := Qf w kd tx n a q m d
 have hC := Qg w kd tx n a q m d
 unfold boxed at hB hC
 go_enter Tryz.func11, Tryz.ntmps11
 go_upto_region 1 with (fail)
 generalize World.alloc w _ = w1 at hB hC ⊢
 obtain ⟨c0, c1, c2, c3, c4⟩ := five hC
 replace hB := qh hB
 replace hC := qh hC
 go_wp2_with (first | (go_at_call 31; (with_reducible refine (hT.out _ hB.out).mono ?_); rintro e x2 ⟨rfl, b2⟩))
 all_goals
  go_ret2
  exact ⟨rfl, hB.out.trans (b2.mono hB.out.size)⟩
theorem Qq1 (t : Syn) (hM : Mod t) (q : Option Addr) (d : Nat) (w : World) (hE : PEnv w) (ht : TabW w) (hks : KidR w t.kids (.slice q t.kids.length d)) (hbig : okP 1 t = true → (wrN 1 t).length ≤ 140737488355328 ∧ wrN 1 t ≠ []) :
  Calls Tryz.prog 31 #[.int .i64 1, Q3 t q d, .func (.func 21) #[] #[]] w (Q00 w (Q1l (okP 1 t) (wrN 1 t) (Qa (wrN 1 t) (rdO .scheme)))) := by
 have hV := fun W (hb : Below w.heap.size w W) => (show Calls Tryz.prog 56 #[.int .i64 1, Q3 t q d] W (Q6 W (okP 1 t)) from Qc3 (k := 1) (by omega) hM hE.signs hE.space hks W hb)
 have hN : okP 1 t = true → ∀ B b l W w1, WSt w w1 B b l W → l.length + (wrN 1 t).length ≤ 140737488355328 → Calls Tryz.prog 57 #[.pointer (some ⟨b, 0, none⟩), .int .i64 1, Q3 t q d] W fun e w' => e = .returned (.tuple #[]) ∧ WSt w w1 B b (l ++ wrN 1 t) w' :=
  fun ho B b l W w1 h hl => Qab ht B b t hM 1 (by omega) (Or.inl ho) q d hks w1 l W h hl
 have hR : (wrN 1 t).length ≤ 65536 → ∀ W, Below w.heap.size w W → Calls Tryz.prog 21 #[.string ⟨(wrN 1 t).toArray⟩] W fun e w' => Below W.heap.size W w' ∧ ∃ (kd n a z : Int) (tx : List UInt8) (p : Option Addr) (m c : Nat), e = .returned (.tuple #[(Value.agg #[.int .i64 kd, .string ⟨List.toArray tx⟩, .int .i64 n, .int .i64 a, .slice p m c]), .int .i64 z, .int .i64 (errO (Qa (wrN 1 t) (rdO .scheme)))]) :=
  fun hl W hb => (Qgs _ W (by omega) (hE.below hb)).mono fun e w' h => Qal h
 generalize Qa (wrN 1 t) (rdO .scheme) = o at *
 generalize wrN 1 t = txt at *
 generalize okP 1 t = ok at *
 obtain ⟨res, hres⟩ : ∃ r, Hid (r = Q1l ok txt o) := ⟨_, qh rfl⟩
 rw [← hres.out]
 obtain ⟨er, her⟩ : ∃ r, Hid (r = errO o) := ⟨_, qh rfl⟩
 rw [← her.out] at hR
 replace hres := qh (hres.out.trans (show _ = (if ok then if 65536 < txt.length then (([] : List UInt8), 13) else if errO o = 0 then (txt, 0) else ([], errO o) else ([], 3)) from rfl))
 rw [← her.out] at hres
 clear her
 obtain ⟨kd, tx, n, a, ks⟩ := t
 replace hV : ∀ W (hb : Below w.heap.size w W), Calls Tryz.prog 56 #[.int .i64 1, (Value.agg #[.int .i64 kd, .string ⟨List.toArray tx⟩, .int .i64 n, .int .i64 a, .slice q ks.length d])] W (Q6 W ok) := hV
 replace hN : ok = true → ∀ B b l W w1, WSt w w1 B b l W → l.length + txt.length ≤ 140737488355328 → Calls Tryz.prog 57 #[.pointer (some ⟨b, 0, none⟩), .int .i64 1, (Value.agg #[.int .i64 kd, .string ⟨List.toArray tx⟩, .int .i64 n, .int .i64 a, .slice q ks.length d])] W fun e w' => e = .returned (.tuple #[]) ∧ WSt w w1 B b (l ++ txt) w' := hN
 show Calls Tryz.prog 31 #[.int .i64 1, (Value.agg #[.int .i64 kd, .string ⟨List.toArray tx⟩, .int .i64 n, .int .i64 a, .slice q ks.length d]), .func (.func 21) #[] #[]] w (Q00 w res)
 clear hks hM hE ht
 generalize ks.length = m at *
 replace hV := qh hV
 replace hN := qh hN
 replace hR := qh hR
 replace hbig := qh hbig
 have hB := Qf w kd tx n a q m d
 have hC := five (Qg w kd tx n a q m d)
 have hsz : (boxed w kd tx n a q m d).heap.size = w.heap.size + 1 := World.size_alloc ..
 have hw := Qah (boxed w kd tx n a q m d)
 have hB2 : Below w.heap.size w ((boxed w kd tx n a q m d).alloc zWr) := hB.alloc (by rw [hsz]; omega) _
 have hC2 := Qs hC ((Below.refl _ _).alloc (Nat.le_refl _) zWr)
 rw [hsz] at hw
 clear hB hC hsz
 unfold boxed zWr at hw hB2 hC2
 go_enter Tryz.func31, Tryz.ntmps31
 go_upto_region 11 with (fail)
 generalize World.alloc (World.alloc w _) _ = w1 at hw hB2 hC2 ⊢
 have hBb : w.heap.size ≤ w.heap.size + 1 := Nat.le_succ _
 generalize w.heap.size + 1 = b at hw hBb ⊢
 obtain ⟨c0, c1, c2, c3, c4⟩ := hC2
 replace hw := qh hw
 replace hB2 := qh hB2
 cases ok with
 | false =>
  go_wp2_with (first | (go_at_call 56; (with_reducible refine (hV.out _ hB2.out).mono ?_); rintro e x2 ⟨rfl, b2⟩))
  all_goals
   go_ret2
   refine ⟨?_, hB2.out.trans (b2.mono hB2.out.size)⟩
   rw [hres.out]
   rfl
 | true =>
  obtain ⟨hbl, hne⟩ := hbig.out (by first | rfl | trivial)
  replace hres := qh (hres.out.trans (if_pos rfl))
  go_wp2_with (first | (go_at_call 56; (with_reducible refine (hV.out _ hB2.out).mono ?_); rintro e x2 ⟨rfl, b2⟩; obtain ⟨d0, d1, d2, d3, d4⟩ := Qs ⟨c0, c1, c2, c3, c4⟩ b2))
  have hst := WSt.begin (w0 := w) (Q5o hw.out b2) (hB2.out.trans (b2.mono hB2.out.size)) hBb (Nat.le_of_lt (Q0o (Q5o hw.out b2)).2)
  have hN2 := hN.out (by first | rfl | trivial) b b [] x2 x2 hst (by simpa using hbl)
  rw [List.nil_append] at hN2
  replace hN2 := qh hN2
  go_wp2_with (first | (go_at_call 57; (with_reducible refine (hN2.out).mono ?_); rintro e x3 ⟨rfl, hst3⟩))
  have hT := Qc8 hst3.wr hne
  have hL := Qao b b txt x3 hT
  have hB3 := qh hst3.tree
  have hbB := hst3.low
  replace hst3 := qh hst3
  by_cases hl : 65536 < txt.length
  ·replace hres := qh (hres.out.trans (if_pos hl))
   have hli : (65536 : Int) < txt.length := by omega
   replace hL := qh hL
   go_wp2_with (first | (go_at_call 58; (with_reducible refine (hL.out).mono ?_); rintro e w' ⟨rfl, rfl⟩))
   all_goals
    go_ret2
    refine ⟨?_, hB3.out⟩
    rw [hres.out]
    rfl
  ·replace hres := qh (hres.out.trans (if_neg hl))
   have hli : ¬ (65536 : Int) < txt.length := by omega
   have hS1 := qh (Q6k b b txt x3 hT hne)
   replace hL := qh hL
   replace hT := qh hT
   have hRl := qh (hR.out (by omega))
   go_wp2_with (first | (go_at_call 58; (with_reducible refine (hL.out).mono ?_); rintro e w' ⟨rfl, rfl⟩) | (go_at_call 59; (with_reducible refine (hS1.out).mono ?_); rintro e x4 ⟨rfl, hT4, b4⟩; have hB4 := qh (hB3.out.trans (b4.mono hbB))))
   by_cases her : er = 0
   ·have hei : (er : Int) = 0 := by omega
    replace hres := qh (hres.out.trans (if_pos her))
    clear her
    go_wp2_with (first | (go_at_call 21; (with_reducible refine (hRl.out _ hB4.out).mono ?_); rintro e x5 ⟨b5, kd', n', a', z', tx', p', m', c', rfl⟩; have hB5 := qh (hB4.out.trans (b5.mono hB4.out.size)); have hS2 := qh (fun W (h : Below x5.heap.size x5 W) => Q6k b b txt W ((hT4.low b5).low h) hne)) | (go_at_call 59; (with_reducible refine (hS2.out _ ((Below.refl _ _).alloc (Nat.le_refl _) _)).mono ?_); rintro e x6 ⟨rfl, hT6, b6⟩))
    all_goals
     go_ret2
     refine ⟨?_, (hB5.out.alloc hB5.out.size _).trans (b6.mono hbB)⟩
     rw [hres.out]
     rfl
   ·have hei : ¬ (er : Int) = 0 := by omega
    replace hres := qh (hres.out.trans (if_neg her))
    go_wp2_with (first | (go_at_call 21; (with_reducible refine (hRl.out _ hB4.out).mono ?_); rintro e x5 ⟨b5, kd', n', a', z', tx', p', m', c', rfl⟩; have hB5 := qh (hB4.out.trans (b5.mono hB4.out.size))))
    all_goals
     go_ret2
     refine ⟨?_, hB5.out.alloc hB5.out.size _⟩
     rw [hres.out]
     rfl
theorem Qhr (t : Syn) (hM : Mod t) (q : Option Addr) (d : Nat) (w : World) (hE : PEnv w) (ht : TabW w) (hks : KidR w t.kids (.slice q t.kids.length d)) (hbig : okP 1 t = true → (wrN 1 t).length ≤ 140737488355328 ∧ wrN 1 t ≠ []) :
  Calls Tryz.prog 13 #[Q3 t q d] w (Q00 w (Q1l (okP 1 t) (wrN 1 t) (Qa (wrN 1 t) (rdO .scheme)))) := by
 have hT := fun W (hb : Below w.heap.size w W) => Qq1 t hM q d W (hE.below hb) (Q2b ht hb) (hks.low hb) hbig
 generalize Q1l (okP 1 t) (wrN 1 t) (Qa (wrN 1 t) (rdO .scheme)) = res at *
 obtain ⟨kd, tx, n, a, ks⟩ := t
 replace hT : ∀ W (hb : Below w.heap.size w W), Calls Tryz.prog 31 #[.int .i64 1, (Value.agg #[.int .i64 kd, .string ⟨List.toArray tx⟩, .int .i64 n, .int .i64 a, .slice q ks.length d]), .func (.func 21) #[] #[]] W (Q00 W res) := hT
 show Calls Tryz.prog 13 #[(Value.agg #[.int .i64 kd, .string ⟨List.toArray tx⟩, .int .i64 n, .int .i64 a, .slice q ks.length d])] w (Q00 w res)
 clear hbig hks hM hE ht
 generalize ks.length = m at *
 replace hT := qh hT
 have hB := Qf w kd tx n a q m d
 have hC := Qg w kd tx n a q m d
 unfold boxed at hB hC
 go_enter Tryz.func13, Tryz.ntmps13
 go_upto_region 1 with (fail)
 generalize World.alloc w _ = w1 at hB hC ⊢
 obtain ⟨c0, c1, c2, c3, c4⟩ := five hC
 replace hB := qh hB
 replace hC := qh hC
 go_wp2_with (first | (go_at_call 31; (with_reducible refine (hT.out _ hB.out).mono ?_); rintro e x2 ⟨rfl, b2⟩))
 all_goals
  go_ret2
  exact ⟨rfl, hB.out.trans (b2.mono hB.out.size)⟩
theorem Qs4 (t : Syn) (hM : Mod t) (q : Option Addr) (d : Nat) (w : World) (hE : PEnv w) (ht : TabW w) (hks : KidR w t.kids (.slice q t.kids.length d)) (hbig : okP 2 t = true → (wrN 2 t).length ≤ 140737488355328 ∧ wrN 2 t ≠ []) :
  Calls Tryz.prog 31 #[.int .i64 2, Q3 t q d, .func (.func 22) #[] #[]] w (Q00 w (Q1l (okP 2 t) (wrN 2 t) (Qa (wrN 2 t) (rdO .formula)))) := by
 have hV := fun W (hb : Below w.heap.size w W) => (show Calls Tryz.prog 56 #[.int .i64 2, Q3 t q d] W (Q6 W (okP 2 t)) from Qc3 (k := 2) (by omega) hM hE.signs hE.space hks W hb)
 have hN : okP 2 t = true → ∀ B b l W w1, WSt w w1 B b l W → l.length + (wrN 2 t).length ≤ 140737488355328 → Calls Tryz.prog 57 #[.pointer (some ⟨b, 0, none⟩), .int .i64 2, Q3 t q d] W fun e w' => e = .returned (.tuple #[]) ∧ WSt w w1 B b (l ++ wrN 2 t) w' :=
  fun ho B b l W w1 h hl => Qab ht B b t hM 2 (by omega) (Or.inl ho) q d hks w1 l W h hl
 have hR : (wrN 2 t).length ≤ 65536 → ∀ W, Below w.heap.size w W → Calls Tryz.prog 22 #[.string ⟨(wrN 2 t).toArray⟩] W fun e w' => Below W.heap.size W w' ∧ ∃ (kd n a z : Int) (tx : List UInt8) (p : Option Addr) (m c : Nat), e = .returned (.tuple #[(Value.agg #[.int .i64 kd, .string ⟨List.toArray tx⟩, .int .i64 n, .int .i64 a, .slice p m c]), .int .i64 z, .int .i64 (errO (Qa (wrN 2 t) (rdO .formula)))]) :=
  fun hl W hb => (Qhm _ W (by omega) (hE.below hb)).mono fun e w' h => Qal h
 generalize Qa (wrN 2 t) (rdO .formula) = o at *
 generalize wrN 2 t = txt at *
 generalize okP 2 t = ok at *
 obtain ⟨res, hres⟩ : ∃ r, Hid (r = Q1l ok txt o) := ⟨_, qh rfl⟩
 rw [← hres.out]
 obtain ⟨er, her⟩ : ∃ r, Hid (r = errO o) := ⟨_, qh rfl⟩
 rw [← her.out] at hR
 replace hres := qh (hres.out.trans (show _ = (if ok then if 65536 < txt.length then (([] : List UInt8), 13) else if errO o = 0 then (txt, 0) else ([], errO o) else ([], 3)) from rfl))
 rw [← her.out] at hres
 clear her
 obtain ⟨kd, tx, n, a, ks⟩ := t
 replace hV : ∀ W (hb : Below w.heap.size w W), Calls Tryz.prog 56 #[.int .i64 2, (Value.agg #[.int .i64 kd, .string ⟨List.toArray tx⟩, .int .i64 n, .int .i64 a, .slice q ks.length d])] W (Q6 W ok) := hV
 replace hN : ok = true → ∀ B b l W w1, WSt w w1 B b l W → l.length + txt.length ≤ 140737488355328 → Calls Tryz.prog 57 #[.pointer (some ⟨b, 0, none⟩), .int .i64 2, (Value.agg #[.int .i64 kd, .string ⟨List.toArray tx⟩, .int .i64 n, .int .i64 a, .slice q ks.length d])] W fun e w' => e = .returned (.tuple #[]) ∧ WSt w w1 B b (l ++ txt) w' := hN
 show Calls Tryz.prog 31 #[.int .i64 2, (Value.agg #[.int .i64 kd, .string ⟨List.toArray tx⟩, .int .i64 n, .int .i64 a, .slice q ks.length d]), .func (.func 22) #[] #[]] w (Q00 w res)
 clear hks hM hE ht
 generalize ks.length = m at *
 replace hV := qh hV
 replace hN := qh hN
 replace hR := qh hR
 replace hbig := qh hbig
 have hB := Qf w kd tx n a q m d
 have hC := five (Qg w kd tx n a q m d)
 have hsz : (boxed w kd tx n a q m d).heap.size = w.heap.size + 1 := World.size_alloc ..
 have hw := Qah (boxed w kd tx n a q m d)
 have hB2 : Below w.heap.size w ((boxed w kd tx n a q m d).alloc zWr) := hB.alloc (by rw [hsz]; omega) _
 have hC2 := Qs hC ((Below.refl _ _).alloc (Nat.le_refl _) zWr)
 rw [hsz] at hw
 clear hB hC hsz
 unfold boxed zWr at hw hB2 hC2
 go_enter Tryz.func31, Tryz.ntmps31
 go_upto_region 11 with (fail)
 generalize World.alloc (World.alloc w _) _ = w1 at hw hB2 hC2 ⊢
 have hBb : w.heap.size ≤ w.heap.size + 1 := Nat.le_succ _
 generalize w.heap.size + 1 = b at hw hBb ⊢
 obtain ⟨c0, c1, c2, c3, c4⟩ := hC2
 replace hw := qh hw
 replace hB2 := qh hB2
 cases ok with
 | false =>
  go_wp2_with (first | (go_at_call 56; (with_reducible refine (hV.out _ hB2.out).mono ?_); rintro e x2 ⟨rfl, b2⟩))
  all_goals
   go_ret2
   refine ⟨?_, hB2.out.trans (b2.mono hB2.out.size)⟩
   rw [hres.out]
   rfl
 | true =>
  obtain ⟨hbl, hne⟩ := hbig.out (by first | rfl | trivial)
  replace hres := qh (hres.out.trans (if_pos rfl))
  go_wp2_with (first | (go_at_call 56; (with_reducible refine (hV.out _ hB2.out).mono ?_); rintro e x2 ⟨rfl, b2⟩; obtain ⟨d0, d1, d2, d3, d4⟩ := Qs ⟨c0, c1, c2, c3, c4⟩ b2))
  have hst := WSt.begin (w0 := w) (Q5o hw.out b2) (hB2.out.trans (b2.mono hB2.out.size)) hBb (Nat.le_of_lt (Q0o (Q5o hw.out b2)).2)
  have hN2 := hN.out (by first | rfl | trivial) b b [] x2 x2 hst (by simpa using hbl)
  rw [List.nil_append] at hN2
  replace hN2 := qh hN2
  go_wp2_with (first | (go_at_call 57; (with_reducible refine (hN2.out).mono ?_); rintro e x3 ⟨rfl, hst3⟩))
  have hT := Qc8 hst3.wr hne
  have hL := Qao b b txt x3 hT
  have hB3 := qh hst3.tree
  have hbB := hst3.low
  replace hst3 := qh hst3
  by_cases hl : 65536 < txt.length
  ·replace hres := qh (hres.out.trans (if_pos hl))
   have hli : (65536 : Int) < txt.length := by omega
   replace hL := qh hL
   go_wp2_with (first | (go_at_call 58; (with_reducible refine (hL.out).mono ?_); rintro e w' ⟨rfl, rfl⟩))
   all_goals
    go_ret2
    refine ⟨?_, hB3.out⟩
    rw [hres.out]
    rfl
  ·replace hres := qh (hres.out.trans (if_neg hl))
   have hli : ¬ (65536 : Int) < txt.length := by omega
   have hS1 := qh (Q6k b b txt x3 hT hne)
   replace hL := qh hL
   replace hT := qh hT
   have hRl := qh (hR.out (by omega))
   go_wp2_with (first | (go_at_call 58; (with_reducible refine (hL.out).mono ?_); rintro e w' ⟨rfl, rfl⟩) | (go_at_call 59; (with_reducible refine (hS1.out).mono ?_); rintro e x4 ⟨rfl, hT4, b4⟩; have hB4 := qh (hB3.out.trans (b4.mono hbB))))
   by_cases her : er = 0
   ·have hei : (er : Int) = 0 := by omega
    replace hres := qh (hres.out.trans (if_pos her))
    clear her
    go_wp2_with (first | (go_at_call 22; (with_reducible refine (hRl.out _ hB4.out).mono ?_); rintro e x5 ⟨b5, kd', n', a', z', tx', p', m', c', rfl⟩; have hB5 := qh (hB4.out.trans (b5.mono hB4.out.size)); have hS2 := qh (fun W (h : Below x5.heap.size x5 W) => Q6k b b txt W ((hT4.low b5).low h) hne)) | (go_at_call 59; (with_reducible refine (hS2.out _ ((Below.refl _ _).alloc (Nat.le_refl _) _)).mono ?_); rintro e x6 ⟨rfl, hT6, b6⟩))
    all_goals
     go_ret2
     refine ⟨?_, (hB5.out.alloc hB5.out.size _).trans (b6.mono hbB)⟩
     rw [hres.out]
     rfl
   ·have hei : ¬ (er : Int) = 0 := by omega
    replace hres := qh (hres.out.trans (if_neg her))
    go_wp2_with (first | (go_at_call 22; (with_reducible refine (hRl.out _ hB4.out).mono ?_); rintro e x5 ⟨b5, kd', n', a', z', tx', p', m', c', rfl⟩; have hB5 := qh (hB4.out.trans (b5.mono hB4.out.size))))
    all_goals
     go_ret2
     refine ⟨?_, hB5.out.alloc hB5.out.size _⟩
     rw [hres.out]
     rfl
theorem Qti (t : Syn) (hM : Mod t) (q : Option Addr) (d : Nat) (w : World) (hE : PEnv w) (ht : TabW w) (hks : KidR w t.kids (.slice q t.kids.length d)) (hbig : okP 2 t = true → (wrN 2 t).length ≤ 140737488355328 ∧ wrN 2 t ≠ []) :
  Calls Tryz.prog 15 #[Q3 t q d] w (Q00 w (Q1l (okP 2 t) (wrN 2 t) (Qa (wrN 2 t) (rdO .formula)))) := by
 have hT := fun W (hb : Below w.heap.size w W) => Qs4 t hM q d W (hE.below hb) (Q2b ht hb) (hks.low hb) hbig
 generalize Q1l (okP 2 t) (wrN 2 t) (Qa (wrN 2 t) (rdO .formula)) = res at *
 obtain ⟨kd, tx, n, a, ks⟩ := t
 replace hT : ∀ W (hb : Below w.heap.size w W), Calls Tryz.prog 31 #[.int .i64 2, (Value.agg #[.int .i64 kd, .string ⟨List.toArray tx⟩, .int .i64 n, .int .i64 a, .slice q ks.length d]), .func (.func 22) #[] #[]] W (Q00 W res) := hT
 show Calls Tryz.prog 15 #[(Value.agg #[.int .i64 kd, .string ⟨List.toArray tx⟩, .int .i64 n, .int .i64 a, .slice q ks.length d])] w (Q00 w res)
 clear hbig hks hM hE ht
 generalize ks.length = m at *
 replace hT := qh hT
 have hB := Qf w kd tx n a q m d
 have hC := Qg w kd tx n a q m d
 unfold boxed at hB hC
 go_enter Tryz.func15, Tryz.ntmps15
 go_upto_region 1 with (fail)
 generalize World.alloc w _ = w1 at hB hC ⊢
 obtain ⟨c0, c1, c2, c3, c4⟩ := five hC
 replace hB := qh hB
 replace hC := qh hC
 go_wp2_with (first | (go_at_call 31; (with_reducible refine (hT.out _ hB.out).mono ?_); rintro e x2 ⟨rfl, b2⟩))
 all_goals
  go_ret2
  exact ⟨rfl, hB.out.trans (b2.mono hB.out.size)⟩
end Go.Proofs.YtplbfmcgddnkeaaGreatDoor
namespace Go.Proofs.YtplbfmcgddnkeaaGreatDoor
theorem Qej : ∀ (f n : Nat) (l : List UInt8), l ≠ [] → Q0f f n l ≠ []
 | 0, n, l, h => by rw [Q0f]; exact h
 | f + 1, n, l, h => by
  rw [Q0f]
  split
  ·simp
  ·exact Qej f _ _ (by simp)
theorem Qpa (n : Nat) : dec n ≠ [] := by
 unfold dec
 rw [Q0f]
 split
 ·simp
 ·exact Qej _ _ _ (by simp)
theorem Qfm {s : List UInt8} (h : Q1h s = true) : s ≠ [] := fun e => by subst e; revert h; decide
theorem Qfb {t : Syn} (h : okc t = true) : wrc t ≠ [] := by
 rcases t with ⟨kd, tx, n, p, _ | ⟨a, _ | ⟨b, _ | ⟨c, l⟩⟩⟩⟩
 ·rw [wrc]
  split
  ·exact Qpa _
  ·rename_i hk
   rw [okc] at h
   rcases Bool.or_eq_true _ _ ▸ h with h | h
   ·exact absurd h (by rw [Q1r hk]; decide)
   ·exact Qfm (Q5u h)
 ·rw [wrc]; split <;> simp [kNot]
 ·rw [wrc]
  split
  ·split <;> simp
  ·split <;> simp
 ·simp [okc] at h
theorem Qgt {t : Syn} (h : oks t = true) : wrs t ≠ [] := by
 rcases t with ⟨kd, tx, n, p, _ | ⟨a, _ | ⟨b, _ | ⟨c, l⟩⟩⟩⟩
 ·rw [wrs]
  rw [oks] at h
  rcases Bool.or_eq_true _ _ ▸ h with h | h
  ·exact Qfm (Q5u h)
  ·simp only [Bool.and_eq_true, beq_iff_eq] at h
   rw [h.2]; decide
 ·rw [wrs]; simp
 ·rw [wrs]; simp
 ·simp [oks] at h
theorem Qk3 {t : Syn} (h : okf t = true) : wrf t ≠ [] := by
 rcases t with ⟨kd, tx, n, p, _ | ⟨a, _ | ⟨b, _ | ⟨c, l⟩⟩⟩⟩
 ·rw [wrf]
  rw [okf] at h
  simp only [Bool.and_eq_true, beq_iff_eq] at h
  rw [h.2]; decide
 ·rw [wrf]; split
  ·simp [kNot]
  ·split <;> simp
 ·rw [wrf]; split
  ·split <;> simp
  ·simp
 ·simp [okf] at h
theorem Qsy {k : Int} {x : Syn} (h : Q0b k x = true) : (wpart x).length ≤ mass x := by
 obtain ⟨q, a, rfl, ha⟩ := Qrq h
 have h1 := Q7z _ a (Nat.lt_succ_self _) ha
 have e : kid0 (.mk k [] 0 q [a]) = a := rfl
 have hw : (if (Syn.mk k [] 0 q [a]).kind = 2 then Qf5 else if (Syn.mk k [] 0 q [a]).kind = 3 then Qf2 else Qe8).length ≤ 5 := by
  split
  ·decide
  ·split <;> decide
 unfold wpart
 rw [e, Qr, Qm, Qw]
 simp only [List.length_cons, List.length_append]
 omega
theorem Qeh : ∀ l : List Syn, (∀ x ∈ l, ∃ k : Int, Q0b k x = true) → (l.flatMap wpart).length ≤ massL l
 | [], _ => by simp
 | x :: r, h => by
  obtain ⟨k, hk⟩ := h x (List.mem_cons_self ..)
  have h1 := Qsy hk
  have h2 := Qeh r fun y hy => h y (List.mem_cons_of_mem _ hy)
  rw [List.flatMap_cons, List.length_append, Qm]
  omega
theorem Qqh {t : Syn} (h : Q2x t = true) : (wdecl t).length ≤ mass t := by
 obtain ⟨-, h2, h3⟩ := Qq5 h
 have hd : (dec t.num.toNat).length ≤ 7 := Q64 (by omega)
 rcases t with ⟨kd, tx, n, p, ks⟩
 simp only [Syn.kind, Syn.text, Syn.num, Syn.kids] at h2 h3 hd
 rw [Qr]
 rcases h3 with ⟨rfl, a, w, b, c, rfl, ha, hw, hb, hc⟩ | ⟨rfl, -, a, rfl, ha⟩ | ⟨rfl, -, a, rfl, ha⟩ | ⟨rfl, a, b, rfl, ha, hb⟩
 ·have hp := Qin (a := a) hw hb hc
  have h1 := Qeh (w ++ b :: c) fun x hx => by obtain ⟨k, -, h⟩ := hp x hx; exact ⟨k, h⟩
  have h4 := Q9u ha
  unfold wdecl
  rw [if_pos (by rfl), Qm]
  simp only [kid0, Syn.kids, List.headD_cons, List.drop_succ_cons, List.drop_zero, Syn.text, Syn.num, List.length_append, List.length_cons, List.length_nil] at h1 h4 hd ⊢
  omega
 ·have h1 := Qcw _ a (Nat.lt_succ_self _) ha
  unfold wdecl
  rw [if_neg (by simp [Syn.kind]), if_pos (by rfl), Qm, Qw]
  simp only [kid0, Syn.kids, List.headD_cons, Syn.text, List.length_append, List.length_cons, List.length_nil]
  omega
 ·have h1 := Qcf _ a (Nat.lt_succ_self _) ha
  unfold wdecl
  rw [if_neg (by simp [Syn.kind]), if_neg (by simp [Syn.kind]), if_pos (by rfl), Qm, Qw]
  simp only [kid0, Syn.kids, List.headD_cons, Syn.text, List.length_append, List.length_cons, List.length_nil]
  omega
 ·have h1 := Q5k a
  have h4 := Q5k b
  unfold wdecl
  rw [if_neg (by simp [Syn.kind]), if_neg (by simp [Syn.kind]), if_neg (by simp [Syn.kind]), Qm, Qm, Qw]
  simp only [kid0, kid1, Syn.kids, List.headD_cons, List.drop_succ_cons, List.drop_zero, Syn.text, Syn.num, List.length_append, List.length_cons, List.length_nil] at h1 h4 hd ⊢
  omega
theorem Qdk : ∀ l : List Syn, (∀ x ∈ l, Q2x x = true) → (l.flatMap wdecl).length ≤ massL l
 | [], _ => by simp
 | x :: r, h => by
  have h1 := Qqh (h x (List.mem_cons_self ..))
  have h2 := Qdk r fun y hy => h y (List.mem_cons_of_mem _ hy)
  rw [List.flatMap_cons, List.length_append, Qm]
  omega
theorem Qlk {t : Syn} (h : Q6j t = true) : (wprog t).length ≤ mass t := by
 obtain ⟨-, -, h3, h4⟩ := Qlr h
 have hd : (dec t.num.toNat).length ≤ 7 := Q64 (by omega)
 have h1 := Qdk t.kids h4
 rcases t with ⟨kd, tx, n, p, ks⟩
 rw [Qr]
 unfold wprog
 simp only [Syn.kids, Syn.num, List.length_append, List.length_cons, List.length_nil] at h1 hd ⊢
 omega
theorem Qj9 {s : List UInt8} {r : List Tok → Rd} {ok : Syn → Bool} {t : Syn} {j : Nat} (hr : ∀ T, TT (100 + 2 * s.length) T → WR (100 + 2 * s.length) ok (r T)) (hg : ∀ T, Asc s.length T → GR s.length T (r T)) (h : Qa s r = .ok t j) : ok t = true ∧ mass t ≤ (100 + 2 * s.length) * s.length := by
 unfold Qa at h
 split at h
 ·cases h
 ·rename_i T hT
  obtain ⟨hA, hL⟩ := Qmh hT
  have h1 := Qoi (T := T) (hr T hA)
  have h2 := Qoy (Qeq hT) (hg T (Qeq hT)) (scanned hT).pos
  rw [h] at h1 h2
  have h1 : ok t = true ∧ mass t + (100 + 2 * s.length) * 0 ≤ (100 + 2 * s.length) * j := h1
  have h2 : 0 ≤ j ∧ j < T.length ∧ _ := h2
  have h3 : (100 + 2 * s.length) * j ≤ (100 + 2 * s.length) * s.length := Nat.mul_le_mul_left _ (by omega)
  exact ⟨h1.1, by omega⟩
theorem Qfu : ∀ l : List Syn, 70 * l.length ≤ massL l
 | [] => by simp
 | x :: r => by
  have h1 := Qfu r
  have h2 := Q5k x
  rw [Qm, List.length_cons]; omega
theorem Qcn : ∀ {l : List Syn} {x : Syn}, x ∈ l → mass x ≤ massL l
 | [], x, h => (List.not_mem_nil h).elim
 | y :: r, x, h => by
  rw [Qm]
  rcases List.mem_cons.1 h with rfl | h
  ·omega
  ·have := Qcn h; omega
theorem Qfp : ∀ (m : Nat) (t : Syn), SizeOf.sizeOf t < m → mass t ≤ 2000000 → Mod t := by
 intro m
 induction m with
 | zero => intro t h; omega
 | succ m ih =>
  intro t hm ht
  rcases t with ⟨kd, tx, n, p, ks⟩
  rw [Qr] at ht
  have h1 := Qfu ks
  refine .mk (by omega) (by omega) fun z hz => ih z ?_ ?_
  ·have h2 := List.sizeOf_lt_of_mem hz
   simp only [Syn.mk.sizeOf_spec] at hm
   omega
  ·have := Qcn hz; omega
end Go.Proofs.YtplbfmcgddnkeaaGreatDoor
namespace Go.Proofs.YtplbfmcgddnkeaaGreatDoor
open Go.RowKit
theorem Qkv {S : Nat → Prop} {w : World} {l : List Syn} {p : Option Addr} {n c : Nat} (h : KidsAt S w l (.slice p n c)) : l.length ≤ c := by
 cases h with
 | none => exact Nat.zero_le _
 | some _ _ _ hc => exact hc
theorem KidR.of_kids {S : Nat → Prop} {w : World} : ∀ (m : Nat) {l : List Syn} {v : Value}, SizeOf.sizeOf l < m → KidsAt S w l v → KidR w l v := by
 intro m
 induction m with
 | zero => intro l v h; omega
 | succ m ih =>
  intro l v hm h
  obtain ⟨p, c, rfl, hf⟩ := Qbi h
  have h0' := h
  by_cases h0 : l.length = 0
  ·have : l = [] := List.eq_nil_of_length_eq_zero h0
   subst this
   exact .nil
  ·obtain ⟨g, _, _, _, _, _, _, rfl, -⟩ := hf 0 (by omega)
   have key : ∀ i, ∃ u, ∀ (hi : i < l.length), (w.cell? ⟨g, 0 + i * 5, none⟩ = some (.int .i64 l[i].kind) ∧ w.cell? ⟨g, 0 + i * 5 + 1, none⟩ = some (.string ⟨l[i].text.toArray⟩) ∧
     w.cell? ⟨g, 0 + i * 5 + 2, none⟩ = some (.int .i64 l[i].num) ∧ w.cell? ⟨g, 0 + i * 5 + 3, none⟩ = some (.int .i64 l[i].pos) ∧ w.cell? ⟨g, 0 + i * 5 + 4, none⟩ = some u) ∧ KidR w l[i].kids u := by
    intro i
    by_cases hi : i < l.length
    ·obtain ⟨g', kd, tx, n, a, kids, u, e0, e, hk, c0, c1, c2, c3, c4⟩ := hf i hi
     have e0 : g' = g := by injection e0 with e0; injection e0 with e0; exact e0.symm
     subst e0
     have hsz : SizeOf.sizeOf kids < m := by
      have h1 := List.sizeOf_lt_of_mem (List.getElem_mem hi)
      rw [e] at h1
      simp only [Syn.mk.sizeOf_spec] at h1
      omega
     refine ⟨u, fun _ => ?_⟩
     rw [e]
     simp only [Nat.zero_add]
     exact ⟨⟨c0, c1, c2, c3, c4⟩, ih hsz hk⟩
    ·exact ⟨.slice none 0 0, fun h => absurd h hi⟩
   obtain ⟨u, hu⟩ := Classical.axiomOfChoice key
   exact .row (u := u) (fun i hi => (hu i hi).1) (fun i hi => (hu i hi).2) (Qkv h0')
def wrK (k : Nat) (t : Syn) : List UInt8 := if k = 0 then wprog t else if k = 1 then wrc t else if k = 2 then wrs t else wrf t
def okK (k : Nat) (t : Syn) : Bool := if k = 0 then Q6j t else if k = 1 then okc t else if k = 2 then oks t else okf t
def rdK (k : Nat) : List Tok → Rd := if k = 0 then Qmd else if k = 1 then rdO .cond else if k = 2 then rdO .scheme else rdO .formula
def prK (k : Nat) (t : Syn) : List UInt8 × Nat := Q1l (okK k t) (wrK k t) (Qa (wrK k t) (rdK k))
theorem Qoc {ok : Bool} {s s' : List UInt8} {r : List Tok → Rd} (h : ok = true → s = s') : Q1l ok s (Qa s r) = Q1l ok s' (Qa s' r) := by
 cases ok with
 | false => rfl
 | true => rw [h rfl]
def Qdt (w : World) (o : Out Syn) (e : Ending) (w' : World) : Prop := Below w.heap.size w w' ∧ ∃ (y : Syn) (q : Option Addr) (d : Nat) (z : Int), e = .returned (.tuple #[Q3 y q d, .int .i64 z, .int .i64 (errO o)]) ∧ (∀ W, Keep (Fr w.heap.size) w' W → KidR W y.kids (.slice q y.kids.length d)) ∧ (∀ t j, o = .ok t j → y = t)
theorem PRes.norm {w w' : World} {o : Out Syn} {e : Ending} (h : PRes w o e w') : Qdt w o e w' := by
 obtain ⟨hb, h⟩ := h
 refine ⟨hb, ?_⟩
 cases o with
 | none => exact h.elim
 | err p x => exact ⟨Q2r, none, 0, p, h, fun _ _ => .nil, fun t j e => by cases e⟩
 | ok t i =>
  obtain ⟨v, h1, kv, rfl, hk⟩ := h
  obtain ⟨p, c, rfl, -⟩ := Qbi hk
  exact ⟨t, p, c, 0, h1, fun W hW => KidR.of_kids _ (Nat.lt_succ_self _) (hk.keep hW fun _ h => h), fun t' j e => by cases e; rfl⟩
theorem Qgp (t : Syn) (hM : Mod t) (q : Option Addr) (d : Nat) (w : World) (hE : PEnv w) (ht : TabW w) (hks : KidR w t.kids (.slice q t.kids.length d)) (hbig : okf t = true → (wrf t).length ≤ 140737488355328) :
  Calls Tryz.prog 15 #[Q3 t q d] w (Q00 w (prK 3 t)) := by
 have h := Qti t hM q d w hE ht hks (fun h => ⟨by rw [Q3t h]; exact hbig h, by rw [Q3t h]; exact Qk3 h⟩)
 rw [Qoc (ok := okP 2 t) (s := wrN 2 t) (s' := wrf t) (fun h => Q3t h)] at h
 exact h
end Go.Proofs.YtplbfmcgddnkeaaGreatDoor
namespace Go.Proofs.YtplbfmcgddnkeaaGreatDoor
theorem Qqi (k : Nat) {C : Nat} (T : List Tok) (hA : TT C T) : WR C (okK k) (rdK k T) := by
 unfold okK rdK
 split
 ·exact Qpf hA
 ·split
  ·exact rd_w hA _ .cond
  ·split
   ·exact rd_w hA _ .scheme
   ·exact rd_w hA _ .formula
theorem Qoz (k : Nat) {n : Int} (T : List Tok) (hA : Asc n T) : GR n T (rdK k T) := by
 unfold rdK
 split
 ·exact Qls hA
 ·split
  ·exact rd_g hA _ .cond
  ·split
   ·exact rd_g hA _ .scheme
   ·exact rd_g hA _ .formula
theorem Q86 {k : Nat} {t : Syn} (h : okK k t = true) : (wrK k t).length ≤ mass t := by
 unfold okK at h
 unfold wrK
 split
 ·rename_i e; rw [if_pos e] at h; exact Qlk h
 ·rename_i e; rw [if_neg e] at h
  split
  ·rename_i e; rw [if_pos e] at h; exact Q7z _ t (Nat.lt_succ_self _) h
  ·rename_i e; rw [if_neg e] at h
   split
   ·rename_i e; rw [if_pos e] at h; exact Qcw _ t (Nat.lt_succ_self _) h
   ·rename_i e; rw [if_neg e] at h; exact Qcf _ t (Nat.lt_succ_self _) h
theorem parsedK {k : Nat} {s : List UInt8} {t : Syn} {j : Nat} (h : Qa s (rdK k) = .ok t j) (hs : s.length ≤ 900) : okK k t = true ∧ Mod t ∧ (wrK k t).length ≤ 140737488355328 := by
 obtain ⟨h1, h2⟩ := Qj9 (fun T hA => Qqi k T hA) (fun T hA => Qoz k T hA) h
 have h3 : (100 + 2 * s.length) * s.length ≤ 1900 * 900 := Nat.mul_le_mul (by omega) hs
 have h4 := Q86 h1
 exact ⟨h1, Qfp _ t (Nat.lt_succ_self _) (by omega), by omega⟩
abbrev sC : List UInt8 := [40, 97, 108, 108, 32, 112, 58, 40, 105, 110, 40, 112, 41, 61, 48, 41, 41, 32, 111, 114, 32, 40, 49, 60, 50, 32, 97, 110, 100, 32, 110, 111, 116, 40, 120, 61, 49, 41, 41]
abbrev tC : List UInt8 := [40, 97, 108, 108, 32, 112, 58, 32, 105, 110, 40, 112, 41, 32, 61, 32, 48, 41, 32, 111, 114, 32, 49, 32, 60, 32, 50, 32, 97, 110, 100, 32, 110, 111, 116, 32, 120, 32, 61, 32, 49]
abbrev sS : List UInt8 := [40, 97, 32, 111, 114, 32, 98, 41, 116, 104, 101, 110, 32, 50, 32, 99, 114, 97, 115, 104, 40, 32, 49, 32, 41]
abbrev tS : List UInt8 := [40, 97, 32, 111, 114, 32, 98, 41, 32, 116, 104, 101, 110, 32, 50, 32, 99, 114, 97, 115, 104, 40, 49, 41]
abbrev sF : List UInt8 := [69, 40, 123, 48, 44, 49, 125, 44, 116, 114, 117, 101, 41, 117, 110, 116, 105, 108, 32, 67, 40, 101, 118, 101, 114, 121, 111, 110, 101, 44, 97, 116, 40, 50, 41, 41]
abbrev tF : List UInt8 := [69, 40, 123, 48, 44, 32, 49, 125, 44, 32, 116, 114, 117, 101, 41, 32, 117, 110, 116, 105, 108, 32, 67, 40, 101, 118, 101, 114, 121, 111, 110, 101, 44, 32, 97, 116, 40, 50, 41, 41]
theorem Qci {k : Nat} {s t : List UInt8} (h : (match Qa s (rdK k) with | .ok c _ => decide (prK k c = (t, 0)) | _ => false) = true) : ∃ c j, Qa s (rdK k) = .ok c j ∧ prK k c = (t, 0) := by
 cases ho : Qa s (rdK k) with
 | none => rw [ho] at h; cases h
 | err p e => rw [ho] at h; cases h
 | ok c j => rw [ho] at h; exact ⟨c, j, rfl, of_decide_eq_true h⟩
theorem Qq8 : ∃ c j, Qa sC (rdK 1) = .ok c j ∧ prK 1 c = (tC, 0) := Qci (by kernel_rfl)
theorem Qjl : ∃ c j, Qa sS (rdK 2) = .ok c j ∧ prK 2 c = (tS, 0) := Qci (by kernel_rfl)
theorem Qln : ∃ c j, Qa sF (rdK 3) = .ok c j ∧ prK 3 c = (tF, 0) := Qci (by kernel_rfl)
theorem Qqn : prK 1 (.mk 8 [97, 108, 108] 0 0 []) = ([], 3) := by kernel_rfl
end Go.Proofs.YtplbfmcgddnkeaaGreatDoor
