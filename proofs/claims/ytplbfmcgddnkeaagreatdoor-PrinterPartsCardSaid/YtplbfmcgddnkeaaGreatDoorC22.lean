/- Walks of functions, and plain facts. -/
import Derived.Test.YtplbfmcgddnkeaaGreatDoorC21
set_option linter.unusedVariables false
set_option linter.unusedSimpArgs false
set_option maxHeartbeats 20000000
set_option maxRecDepth 100000
namespace Go.Proofs.YtplbfmcgddnkeaaGreatDoor
open Go.RowKit
theorem Qmo {w0 w : World} {B b k : Nat} {x : Syn} {q : Option Addr} {d A1 A2 : Nat} (hN : Q1o w0 B b k x q d) (hA1 : ∀ W, WRel B b w W → W.cell? ⟨A1, 0, none⟩ = some (.pointer (some ⟨b, 0, none⟩))) (hA2 : ∀ W, WRel B b w W → W.cell? ⟨A2, 0, none⟩ = some (.int .i64 k)) :
  Q59 w0 w B b 109 #[Q3 x q d, .pointer (some ⟨A1, 0, none⟩), .pointer (some ⟨A2, 0, none⟩)] (wrN k x) := by
 intro l W hst hlen
 unfold Q1o at hN
 generalize wrN k x = txt at *
 replace hN := qh hN
 have hFr := Q7n (Q0o hst.wr).2 x.kind x.text x.num x.pos q x.kids.length d
 have hst1 := hst.step (Qf W x.kind x.text x.num x.pos q x.kids.length d)
 have e1 := hA1 _ hst1.rel
 have e2 := hA2 _ hst1.rel
 unfold boxed at hFr hst1 e1 e2
 go_enter Tryz.func109, Tryz.ntmps109
 go_upto_region 1 with (fail)
 generalize World.alloc W _ = w1 at hFr hst1 e1 e2 ⊢
 generalize W.heap.size = s at hFr ⊢
 obtain ⟨d0, d1, d2, d3, d4⟩ := hFr.five (WRel.refl B b w1)
 replace hst1 := qh hst1
 go_wp2_with (first | (go_at_call 57; (with_reducible refine (hN.out _ _ _ hst1.out hlen).mono ?_); rintro e x6 ⟨rfl, hst5⟩))
 all_goals
  go_end0
  exact ⟨rfl, hst5⟩
def wrA (k : Nat) (x : Syn) : List UInt8 := if k = 0 then par (decide (lvl 0 x < 4)) (wrN 0 x) else if k = 1 then wrN 0 x else wrN 2 x
theorem Qrk {w0 w : World} {B b : Nat} {x : Syn} {q : Option Addr} {d A1 A2 : Nat} (hN : Q1o w0 B b 0 x q d) (hA2 : ∀ W, WRel B b w W → W.cell? ⟨A2, 0, none⟩ = some (.pointer (some ⟨b, 0, none⟩))) (hA1 : ∀ W, WRel B b w W → W.cell? ⟨A1, 0, none⟩ = some (.int .i64 (0 : Nat))) :
  Q59 w0 w B b 150 #[Q3 x q d, .pointer (some ⟨A1, 0, none⟩), .pointer (some ⟨A2, 0, none⟩)] (wrA 0 x) := by
 intro l W hst hlen
 have hO : ∀ l W, WSt w0 w B b l W → l.length + (wrA 0 x).length ≤ 140737488355328 → Calls Tryz.prog 106 #[.pointer (some ⟨b, 0, none⟩), .int .i64 0, Q3 x q d, .int .i64 4, .bool false] W fun e w' => e = .returned (.tuple #[]) ∧ WSt w0 w B b (l ++ wrA 0 x) w' := fun l W h hl => by
  refine (Q6c 0 (by omega) x q d 4 false w0 W B b l h.fresh hN hl).mono ?_
  rintro e w' ⟨he, hs⟩
  exact ⟨he, h.call hs⟩
 generalize wrA 0 x = txt at *
 replace hO := qh hO
 clear hN
 have hFr := Q7n (Q0o hst.wr).2 x.kind x.text x.num x.pos q x.kids.length d
 have hst1 := hst.step (Qf W x.kind x.text x.num x.pos q x.kids.length d)
 have e1 := hA1 _ hst1.rel
 have e2 := hA2 _ hst1.rel
 unfold boxed at hFr hst1 e1 e2
 go_enter Tryz.func150, Tryz.ntmps150
 go_upto_region 1 with (fail)
 generalize World.alloc W _ = w1 at hFr hst1 e1 e2 ⊢
 generalize W.heap.size = s at hFr ⊢
 obtain ⟨d0, d1, d2, d3, d4⟩ := hFr.five (WRel.refl B b w1)
 replace hst1 := qh hst1
 go_wp2_with (first | (go_at_call 106; (with_reducible refine (hO.out _ _ hst1.out hlen).mono ?_); rintro e x6 ⟨rfl, hst5⟩))
 all_goals
  go_end0
  exact ⟨rfl, hst5⟩
theorem Qr5 {w0 w : World} {B b : Nat} {x : Syn} {q : Option Addr} {d A1 A2 : Nat} (hN : Q1o w0 B b 0 x q d) (hA2 : ∀ W, WRel B b w W → W.cell? ⟨A2, 0, none⟩ = some (.pointer (some ⟨b, 0, none⟩))) (hA1 : ∀ W, WRel B b w W → W.cell? ⟨A1, 0, none⟩ = some (.int .i64 (1 : Nat))) :
  Q59 w0 w B b 150 #[Q3 x q d, .pointer (some ⟨A1, 0, none⟩), .pointer (some ⟨A2, 0, none⟩)] (wrA 1 x) := by
 intro l W hst hlen
 have hw : wrA 1 x = wrN 0 x := rfl
 rw [hw] at hlen ⊢
 have hN : ∀ w1 l W, WSt w0 w1 B b l W → l.length + (wrN 0 x).length ≤ 140737488355328 → Calls Tryz.prog 57 #[.pointer (some ⟨b, 0, none⟩), .int .i64 0, Q3 x q d] W fun e w' => e = .returned (.tuple #[]) ∧ WSt w0 w1 B b (l ++ wrN 0 x) w' := hN
 clear hw
 generalize wrN 0 x = txt at *
 replace hN := qh hN
 have hFr := Q7n (Q0o hst.wr).2 x.kind x.text x.num x.pos q x.kids.length d
 have hst1 := hst.step (Qf W x.kind x.text x.num x.pos q x.kids.length d)
 have e1 := hA1 _ hst1.rel
 have e2 := hA2 _ hst1.rel
 unfold boxed at hFr hst1 e1 e2
 go_enter Tryz.func150, Tryz.ntmps150
 go_upto_region 1 with (fail)
 generalize World.alloc W _ = w1 at hFr hst1 e1 e2 ⊢
 generalize W.heap.size = s at hFr ⊢
 obtain ⟨d0, d1, d2, d3, d4⟩ := hFr.five (WRel.refl B b w1)
 replace hst1 := qh hst1
 go_wp2_with (first | (go_at_call 57; (with_reducible refine (hN.out _ _ _ hst1.out hlen).mono ?_); rintro e x6 ⟨rfl, hst5⟩))
 all_goals
  go_end0
  exact ⟨rfl, hst5⟩
theorem Qkg {w0 w : World} {B b : Nat} {x : Syn} {q : Option Addr} {d A1 A2 : Nat} (hN : Q1o w0 B b 2 x q d) (hA2 : ∀ W, WRel B b w W → W.cell? ⟨A2, 0, none⟩ = some (.pointer (some ⟨b, 0, none⟩))) (hA1 : ∀ W, WRel B b w W → W.cell? ⟨A1, 0, none⟩ = some (.int .i64 (2 : Nat))) :
  Q59 w0 w B b 150 #[Q3 x q d, .pointer (some ⟨A1, 0, none⟩), .pointer (some ⟨A2, 0, none⟩)] (wrA 2 x) := by
 intro l W hst hlen
 have hw : wrA 2 x = wrN 2 x := rfl
 rw [hw] at hlen ⊢
 have hN : ∀ w1 l W, WSt w0 w1 B b l W → l.length + (wrN 2 x).length ≤ 140737488355328 → Calls Tryz.prog 57 #[.pointer (some ⟨b, 0, none⟩), .int .i64 2, Q3 x q d] W fun e w' => e = .returned (.tuple #[]) ∧ WSt w0 w1 B b (l ++ wrN 2 x) w' := hN
 clear hw
 generalize wrN 2 x = txt at *
 replace hN := qh hN
 have hFr := Q7n (Q0o hst.wr).2 x.kind x.text x.num x.pos q x.kids.length d
 have hst1 := hst.step (Qf W x.kind x.text x.num x.pos q x.kids.length d)
 have e1 := hA1 _ hst1.rel
 have e2 := hA2 _ hst1.rel
 unfold boxed at hFr hst1 e1 e2
 go_enter Tryz.func150, Tryz.ntmps150
 go_upto_region 1 with (fail)
 generalize World.alloc W _ = w1 at hFr hst1 e1 e2 ⊢
 generalize W.heap.size = s at hFr ⊢
 obtain ⟨d0, d1, d2, d3, d4⟩ := hFr.five (WRel.refl B b w1)
 replace hst1 := qh hst1
 go_wp2_with (first | (go_at_call 57; (with_reducible refine (hN.out _ _ _ hst1.out hlen).mono ?_); rintro e x6 ⟨rfl, hst5⟩))
 all_goals
  go_end0
  exact ⟨rfl, hst5⟩
theorem Qko {w0 w : World} {B b k : Nat} (hk : k ≤ 2) {x : Syn} {q : Option Addr} {d A1 A2 : Nat} (hN : Q1o w0 B b (if k = 2 then 2 else 0) x q d) (hA2 : ∀ W, WRel B b w W → W.cell? ⟨A2, 0, none⟩ = some (.pointer (some ⟨b, 0, none⟩))) (hA1 : ∀ W, WRel B b w W → W.cell? ⟨A1, 0, none⟩ = some (.int .i64 k)) :
  Q59 w0 w B b 150 #[Q3 x q d, .pointer (some ⟨A1, 0, none⟩), .pointer (some ⟨A2, 0, none⟩)] (wrA k x) := by
 match k, hk with
 | 0, _ => exact Qrk hN hA2 hA1
 | 1, _ => exact Qr5 hN hA2 hA1
 | 2, _ => exact Qkg hN hA2 hA1
def Q1u (k : Nat) (tx : List UInt8) (ks : List Syn) : List UInt8 := if ks.length = 0 then tx else tx ++ ([40] ++ (commas (ks.map (wrA k)) ++ [41]))
theorem Qoj (k : Nat) (hk : k ≤ 2) (kd : Int) (tx : List UInt8) (n a : Int) (ks : List Syn) (q : Option Addr) (d : Nat) (w0 w : World) (B b : Nat) (l : List UInt8) (hst : WSt w0 w B b l w) (hks : KidR w0 ks (.slice q ks.length d)) (hl : ks.length ≤ 100000)
  (hN : ∀ i (hi : i < ks.length) q d, KidR w0 ks[i].kids (.slice q ks[i].kids.length d) → Q1o w0 B b (if k = 2 then 2 else 0) ks[i] q d) (hlen : l.length + (Q1u k tx ks).length ≤ 140737488355328) :
  Calls Tryz.prog 110 #[.pointer (some ⟨b, 0, none⟩), .int .i64 k, (Value.agg #[.int .i64 kd, .string ⟨List.toArray tx⟩, .int .i64 n, .int .i64 a, .slice q ks.length d])] w (WPost w0 w B b (l ++ Q1u k tx ks)) := by
 have hW := show Q1u k tx ks = if ks.length = 0 then tx else tx ++ ([40] ++ (commas (ks.map (wrA k)) ++ [41])) from rfl
 by_cases h0 : ks.length = 0
 ·rw [if_pos h0] at hW
  rw [hW] at hlen ⊢
  rw [h0]
  clear hN hks hl h0 hW
  have hFr := Q2z (Q0o hst.wr).2 k kd tx n a q 0 d
  have hst1 := hst.step (Q0s w b k kd tx n a q 0 d)
  have hB1 : B ≤ (Q0e w b k kd tx n a q 0 d).heap.size := Nat.le_trans hst.ge (Q0s w b k kd tx n a q 0 d).size
  unfold Q0e boxed at hFr hst1 hB1
  go_enter Tryz.func110, Tryz.ntmps110
  go_upto_region 1 with (fail)
  generalize World.alloc (World.alloc (World.alloc w _) _) _ = w1 at hFr hst1 hB1 ⊢
  generalize w.heap.size = s at hFr ⊢
  have hR := WRel.refl B b w1
  have g0 := hFr.w hR
  have g1 := hFr.kd hR
  have c0 := hFr.t0 hR
  have c1 := hFr.t1 hR
  have c2 := hFr.t2 hR
  have c3 := hFr.t3 hR
  have c4 := hFr.t4 hR
  have hst2 := qh (hst1.fresh)
  replace hst1 := qh hst1
  have hA := (hst2.out).add [tx] (by simp) (by simpa using hlen)
  simp only [List.flatten_cons, List.flatten_nil, List.append_nil, List.map_cons, List.map_nil, List.length_cons, List.length_nil] at hA
  replace hA := qh hA
  go_wp2_with (first | (go_at_call 53; (with_reducible refine (hA.out).mono ?_); rintro e x5 ⟨rfl, hst3⟩; have g4 := hFr.t4 hst3.rel))
  all_goals
   go_end0
   exact ⟨rfl, hst1.out.call hst3⟩
 ·rw [if_neg h0] at hW
  rw [hW] at hlen ⊢
  obtain ⟨pt, hpt⟩ : ∃ r, Hid (r = commas (ks.map (wrA k))) := ⟨_, qh rfl⟩
  rw [← hpt.out] at hlen ⊢
  simp only [List.length_append, List.length_cons, List.length_nil] at hlen
  have h0' : ¬ (ks.length : Int) = 0 := by omega
  clear hW h0
  obtain ⟨txt, htxt⟩ : ∃ r, Hid (r = l ++ (tx ++ ([40] ++ (pt ++ [41])))) := ⟨_, qh rfl⟩
  rw [← htxt.out]
  have hm : ∃ m, Hid (m = ks.length) := ⟨_, qh rfl⟩
  have hFr := Q2z (Q0o hst.wr).2 k kd tx n a q ks.length d
  have hst1 := hst.step (Q0s w b k kd tx n a q ks.length d)
  have hB1 : B ≤ (Q0e w b k kd tx n a q ks.length d).heap.size := Nat.le_trans hst.ge (Q0s w b k kd tx n a q ks.length d).size
  unfold Q0e boxed at hFr hst1 hB1
  go_enter Tryz.func110, Tryz.ntmps110
  go_upto_region 1 with (fail)
  generalize World.alloc (World.alloc (World.alloc w _) _) _ = w1 at hFr hst1 hB1 ⊢
  generalize w.heap.size = s at hFr ⊢
  have hR := WRel.refl B b w1
  have g0 := hFr.w hR
  have g1 := hFr.kd hR
  have c0 := hFr.t0 hR
  have c1 := hFr.t1 hR
  have c2 := hFr.t2 hR
  have c3 := hFr.t3 hR
  have c4 := hFr.t4 hR
  have hst2 := qh (hst1.fresh)
  replace hst1 := qh hst1
  have hLs := fun l W (h : WSt w0 w1 B b l W) (hl2 : l.length + pt.length ≤ 140737488355328) => Qno w0 W B b l ks q d (s + 1) s (wrA k) h.fresh hks hl (by rw [← hpt.out]; exact hl2) (fun i hi q' d' hkk => Qko hk (hN i hi q' d' hkk) (fun W' hr => hFr.w (h.rel.trans hr)) (fun W' hr => hFr.kd (h.rel.trans hr)))
  simp only [← hpt.out] at hLs
  replace hLs := qh hLs
  have hA := (hst2.out).add [tx] (by simp) (by simp; omega)
  simp only [List.flatten_cons, List.flatten_nil, List.append_nil, List.map_cons, List.map_nil, List.length_cons, List.length_nil] at hA
  replace hA := qh hA
  clear hks hN
  go_wp2_with (first | (go_at_call 53; (with_reducible refine (hA.out).mono ?_); rintro e x5 ⟨rfl, hst3⟩; have g5 := hFr.t4 hst3.rel; have g6 := hFr.w hst3.rel; replace hst3 := qh hst3))
  have hA2 := (hst3.out).add [[40]] (by simp) (by simp; omega)
  simp only [List.flatten_cons, List.flatten_nil, List.append_nil, List.map_cons, List.map_nil, List.length_cons, List.length_nil] at hA2
  replace hA2 := qh hA2
  go_wp2_with (first | (go_at_call 53; (with_reducible refine (hA2.out).mono ?_); rintro e x6 ⟨rfl, hst4⟩; have g7 := hFr.t4 hst4.rel; have g8 := hFr.w hst4.rel; replace hst4 := qh hst4))
  go_wp2_with (first | (go_at_call 108; (with_reducible refine (hLs.out _ _ hst4.out (by simp only [List.length_append, List.length_cons, List.length_nil]; omega)).mono ?_); rintro e x7 ⟨rfl, hst5⟩; have hst6 := qh (hst4.out.call hst5); have g9 := hFr.w hst6.out.rel))
  have hA3 := (hst6.out).add [[41]] (by simp) (by simp; omega)
  simp only [List.flatten_cons, List.flatten_nil, List.append_nil, List.map_cons, List.map_nil, List.length_cons, List.length_nil] at hA3
  replace hA3 := qh hA3
  go_wp2_with (first | (go_at_call 53; (with_reducible refine (hA3.out).mono ?_); rintro e x8 ⟨rfl, hst7⟩))
  all_goals
   go_end0
   refine ⟨rfl, ?_⟩
   rw [htxt.out]
   have h := hst1.out.call hst7
   simp only [List.append_assoc] at h
   exact h
theorem Qjr (k : Nat) (hk : k ≤ 2) (tx : List UInt8) (n a : Int) (ks : List Syn) (q : Option Addr) (d : Nat) (w0 w : World) (B b : Nat) (l : List UInt8) (hst : WSt w0 w B b l w) (hks : KidR w0 ks (.slice q ks.length d)) (hl : ks.length ≤ 100000)
  (hN : ∀ i (hi : i < ks.length) q d, KidR w0 ks[i].kids (.slice q ks[i].kids.length d) → Q1o w0 B b (if k = 2 then 2 else 0) ks[i] q d) (hlen : l.length + (Q1u k tx ks).length ≤ 140737488355328) :
  Calls Tryz.prog 57 #[.pointer (some ⟨b, 0, none⟩), .int .i64 k, (Value.agg #[.int .i64 10, .string ⟨List.toArray tx⟩, .int .i64 n, .int .i64 a, .slice q ks.length d])] w (WPost w0 w B b (l ++ Q1u k tx ks)) := by
 have hC : ∀ w1 W, WSt w0 w1 B b l W → Calls Tryz.prog 110 #[.pointer (some ⟨b, 0, none⟩), .int .i64 k, (Value.agg #[.int .i64 10, .string ⟨List.toArray tx⟩, .int .i64 n, .int .i64 a, .slice q ks.length d])] W fun e w' => e = .returned (.tuple #[]) ∧ WSt w0 w1 B b (l ++ Q1u k tx ks) w' := fun w1 W h => by
  refine (Qoj k hk 10 tx n a ks q d w0 W B b l h.fresh hks hl hN hlen).mono ?_
  rintro e w' ⟨he, hs⟩
  exact ⟨he, h.call hs⟩
 generalize Q1u k tx ks = txt at *
 clear hN hks hl
 generalize ks.length = m at *
 replace hC := qh hC
 have hFr := Q2z (Q0o hst.wr).2 k 10 tx n a q m d
 have hst1 := hst.step (Q0s w b k 10 tx n a q m d)
 have hB1 : B ≤ (Q0e w b k 10 tx n a q m d).heap.size := Nat.le_trans hst.ge (Q0s w b k 10 tx n a q m d).size
 unfold Q0e boxed at hFr hst1 hB1
 go_enter Tryz.func57, Tryz.ntmps57
 go_upto_region 30 with (fail)
 generalize World.alloc (World.alloc (World.alloc w _) _) _ = w1 at hFr hst1 hB1 ⊢
 generalize w.heap.size = s at hFr ⊢
 have hR := WRel.refl B b w1
 have g0 := hFr.w hR
 have g1 := hFr.kd hR
 have c0 := hFr.t0 hR
 have c1 := hFr.t1 hR
 have c2 := hFr.t2 hR
 have c3 := hFr.t3 hR
 have c4 := hFr.t4 hR
 have hst2 := qh (hst1.fresh)
 replace hst1 := qh hst1
 go_wp2_with (first | (go_at_call 110; (with_reducible refine (hC.out _ _ hst2.out).mono ?_); rintro e x5 ⟨rfl, hst3⟩))
 all_goals
  go_end0
  exact ⟨rfl, hst1.out.call hst3⟩
theorem Qld (k : Nat) (tx : List UInt8) (n a : Int) (ks : List Syn) (q : Option Addr) (d : Nat) (w0 w : World) (B b : Nat) (l : List UInt8) (hst : WSt w0 w B b l w) (hks : KidR w0 ks (.slice q ks.length d)) (hl : ks.length ≤ 100000)
  (hN : ∀ i (hi : i < ks.length) q d, KidR w0 ks[i].kids (.slice q ks[i].kids.length d) → Q1o w0 B b k ks[i] q d) (hlen : l.length + (if tx = [] then [123] ++ (commas (ks.map (wrN k)) ++ [125]) else tx).length ≤ 140737488355328) :
  Calls Tryz.prog 57 #[.pointer (some ⟨b, 0, none⟩), .int .i64 k, (Value.agg #[.int .i64 14, .string ⟨List.toArray tx⟩, .int .i64 n, .int .i64 a, .slice q ks.length d])] w (WPost w0 w B b (l ++ (if tx = [] then [123] ++ (commas (ks.map (wrN k)) ++ [125]) else tx))) := by
 by_cases h0 : tx = []
 ·rw [if_pos h0] at hlen ⊢
  obtain ⟨pt, hpt⟩ : ∃ r, Hid (r = commas (ks.map (wrN k))) := ⟨_, qh rfl⟩
  rw [← hpt.out] at hlen ⊢
  simp only [List.length_append, List.length_cons, List.length_nil] at hlen
  obtain ⟨txt, htxt⟩ : ∃ r, Hid (r = l ++ ([123] ++ (pt ++ [125]))) := ⟨_, qh rfl⟩
  rw [← htxt.out]
  subst h0
  have hFr := Q2z (Q0o hst.wr).2 k 14 [] n a q ks.length d
  have hst1 := hst.step (Q0s w b k 14 [] n a q ks.length d)
  have hB1 : B ≤ (Q0e w b k 14 [] n a q ks.length d).heap.size := Nat.le_trans hst.ge (Q0s w b k 14 [] n a q ks.length d).size
  unfold Q0e boxed at hFr hst1 hB1
  go_enter Tryz.func57, Tryz.ntmps57
  go_upto_region 24 with (fail)
  generalize World.alloc (World.alloc (World.alloc w _) _) _ = w1 at hFr hst1 hB1 ⊢
  generalize w.heap.size = s at hFr ⊢
  have hR := WRel.refl B b w1
  have g0 := hFr.w hR
  have g1 := hFr.kd hR
  have c0 := hFr.t0 hR
  have c1 := hFr.t1 hR
  have c2 := hFr.t2 hR
  have c3 := hFr.t3 hR
  have c4 := hFr.t4 hR
  have hst2 := qh (hst1.fresh)
  replace hst1 := qh hst1
  have hLs := fun l W (h : WSt w0 w1 B b l W) (hl2 : l.length + pt.length ≤ 140737488355328) => Qt2 w0 W B b l ks q d s (s + 1) (wrN k) h.fresh hks hl (by rw [← hpt.out]; exact hl2) (fun i hi q' d' hkk => Qmo (hN i hi q' d' hkk) (fun W' hr => hFr.w (h.rel.trans hr)) (fun W' hr => hFr.kd (h.rel.trans hr)))
  simp only [← hpt.out] at hLs
  replace hLs := qh hLs
  clear hks hN
  have hA := (hst2.out).add [[123]] (by simp) (by simp; omega)
  simp only [List.flatten_cons, List.flatten_nil, List.append_nil, List.map_cons, List.map_nil, List.length_cons, List.length_nil] at hA
  replace hA := qh hA
  go_wp2_with (first | (go_at_call 53; (with_reducible refine (hA.out).mono ?_); rintro e x6 ⟨rfl, hst4⟩; have g7 := hFr.t4 hst4.rel; have g8 := hFr.w hst4.rel; replace hst4 := qh hst4))
  go_wp2_with (first | (go_at_call 108; (with_reducible refine (hLs.out _ _ hst4.out (by simp only [List.length_append, List.length_cons, List.length_nil]; omega)).mono ?_); rintro e x7 ⟨rfl, hst5⟩; have hst6 := qh (hst4.out.call hst5); have g9 := hFr.w hst6.out.rel))
  have hA3 := (hst6.out).add [[125]] (by simp) (by simp; omega)
  simp only [List.flatten_cons, List.flatten_nil, List.append_nil, List.map_cons, List.map_nil, List.length_cons, List.length_nil] at hA3
  replace hA3 := qh hA3
  go_wp2_with (first | (go_at_call 53; (with_reducible refine (hA3.out).mono ?_); rintro e x8 ⟨rfl, hst7⟩))
  all_goals
   go_end0
   refine ⟨rfl, ?_⟩
   rw [htxt.out]
   have h := hst1.out.call hst7
   simp only [List.append_assoc] at h
   exact h
 ·rw [if_neg h0] at hlen ⊢
  clear hN hks hl
  generalize ks.length = m at *
  have h0b : (tx == []) = false := by simp [h0]
  have h0c : tx.isEmpty = false := by cases tx <;> simp_all
  have h0d : (tx.toArray == #[]) = false := by cases tx <;> simp_all
  have h0e : ({ data := tx.toArray } == ({ data := #[] } : ByteArray)) = false := by cases tx <;> simp_all [Qco]
  have hFr := Q2z (Q0o hst.wr).2 k 14 tx n a q m d
  have hst1 := hst.step (Q0s w b k 14 tx n a q m d)
  have hB1 : B ≤ (Q0e w b k 14 tx n a q m d).heap.size := Nat.le_trans hst.ge (Q0s w b k 14 tx n a q m d).size
  unfold Q0e boxed at hFr hst1 hB1
  go_enter Tryz.func57, Tryz.ntmps57
  go_upto_region 24 with (fail)
  generalize World.alloc (World.alloc (World.alloc w _) _) _ = w1 at hFr hst1 hB1 ⊢
  generalize w.heap.size = s at hFr ⊢
  have hR := WRel.refl B b w1
  have g0 := hFr.w hR
  have g1 := hFr.kd hR
  have c0 := hFr.t0 hR
  have c1 := hFr.t1 hR
  have c2 := hFr.t2 hR
  have c3 := hFr.t3 hR
  have c4 := hFr.t4 hR
  have hst2 := qh (hst1.fresh)
  replace hst1 := qh hst1
  have hA := (hst2.out).add [tx] (by simp) (by simp; omega)
  simp only [List.flatten_cons, List.flatten_nil, List.append_nil, List.map_cons, List.map_nil, List.length_cons, List.length_nil] at hA
  replace hA := qh hA
  go_wp2_with (first | (go_at_call 53; (with_reducible refine (hA.out).mono ?_); rintro e x5 ⟨rfl, hst3⟩))
  all_goals
   go_end0
   exact ⟨rfl, hst1.out.call hst3⟩
theorem Qjs (tx : List UInt8) (n a : Int) (v x : Syn) (q : Option Addr) (d : Nat) (w0 w : World) (B b : Nat) (l : List UInt8) (hst : WSt w0 w B b l w) (hks : KidR w0 [v, x] (.slice q [v, x].length d))
  (hN : ∀ q d, KidR w0 x.kids (.slice q x.kids.length d) → Q1o w0 B b 0 x q d) (hlen : l.length + (tx ++ ([32] ++ (v.text ++ (if tx = Qe then [32] ++ par true (wrN 0 x) else [58, 32] ++ wrN 0 x)))).length ≤ 140737488355328) :
  Calls Tryz.prog 57 #[.pointer (some ⟨b, 0, none⟩), .int .i64 (0 : Nat), (Value.agg #[.int .i64 13, .string ⟨List.toArray tx⟩, .int .i64 n, .int .i64 a, .slice q 2 d])] w (WPost w0 w B b (l ++ (tx ++ ([32] ++ (v.text ++ (if tx = Qe then [32] ++ par true (wrN 0 x) else [58, 32] ++ wrN 0 x)))))) := by
 obtain ⟨bb, o, q1, d1, rfl, hc, -⟩ := Q2q hks (by simp)
 obtain ⟨q2, d2, hc2, hkk2⟩ := Q63 hks (by simp)
 simp only [List.getElem_cons_zero, List.getElem_cons_succ] at hc hc2 hkk2
 have hNx := hN q2 d2 hkk2
 have hO : ∀ w1 l W, WSt w0 w1 B b l W → l.length + (par true (wrN 0 x)).length ≤ 140737488355328 → Calls Tryz.prog 106 #[.pointer (some ⟨b, 0, none⟩), .int .i64 0, Q3 x q2 d2, .int .i64 0, .bool true] W fun e w' => e = .returned (.tuple #[]) ∧ WSt w0 w1 B b (l ++ par true (wrN 0 x)) w' := fun w1 l W h hl => by
  refine (Q6c 0 (by omega) x q2 d2 0 true w0 W B b l h.fresh hNx hl).mono ?_
  rintro e w' ⟨he, hs⟩
  exact ⟨he, h.call hs⟩
 replace hNx : ∀ w1 l W, WSt w0 w1 B b l W → l.length + (wrN 0 x).length ≤ 140737488355328 → Calls Tryz.prog 57 #[.pointer (some ⟨b, 0, none⟩), .int .i64 0, Q3 x q2 d2] W fun e w' => e = .returned (.tuple #[]) ∧ WSt w0 w1 B b (l ++ wrN 0 x) w' := hNx
 generalize wrN 0 x = wx at *
 clear hN hks hkk2
 have hpx : (par true wx).length = wx.length + 2 := by simp [par]
 replace hO := qh hO
 replace hNx := qh hNx
 by_cases h0 : tx = Qe
 ·rw [if_pos h0] at hlen ⊢
  subst h0
  generalize par true wx = px at *
  simp only [List.length_append, List.length_cons, List.length_nil] at hlen
  obtain ⟨txt, htxt⟩ : ∃ r, Hid (r = l ++ (Qe ++ ([32] ++ (v.text ++ ([32] ++ px))))) := ⟨_, qh rfl⟩
  rw [← htxt.out]
  have hFr := Q2z (Q0o hst.wr).2 (0 : Nat) 13 Qe n a (some ⟨bb, o, none⟩) 2 d
  have hst1 := hst.step (Q0s w b (0 : Nat) 13 Qe n a (some ⟨bb, o, none⟩) 2 d)
  have hB1 : B ≤ (Q0e w b (0 : Nat) 13 Qe n a (some ⟨bb, o, none⟩) 2 d).heap.size := Nat.le_trans hst.ge (Q0s w b (0 : Nat) 13 Qe n a (some ⟨bb, o, none⟩) 2 d).size
  unfold Q0e boxed at hFr hst1 hB1
  go_enter Tryz.func57, Tryz.ntmps57
  go_upto_region 11 with (fail)
  generalize World.alloc (World.alloc (World.alloc w _) _) _ = w1 at hFr hst1 hB1 ⊢
  generalize w.heap.size = s at hFr ⊢
  have hR := WRel.refl B b w1
  have g0 := hFr.w hR
  have g1 := hFr.kd hR
  have c0 := hFr.t0 hR
  have c1 := hFr.t1 hR
  have c2 := hFr.t2 hR
  have c3 := hFr.t3 hR
  have c4 := hFr.t4 hR
  have hst2 := qh (hst1.fresh)
  replace hst1 := qh hst1
  have hk1 := fun W (h : WRel B b w1 W) => Q41 hc hst1.out.tree hst.low h
  have hk2 := fun W (h : WRel B b w1 W) => Q41 hc2 hst1.out.tree hst.low h
  have a0 := fun W (h : WRel B b w1 W) => (hk1 W h).2.1
  have b0 := fun W (h : WRel B b w1 W) => (hk2 W h).1
  have b1 := fun W (h : WRel B b w1 W) => (hk2 W h).2.1
  have b2 := fun W (h : WRel B b w1 W) => (hk2 W h).2.2.1
  have b3 := fun W (h : WRel B b w1 W) => (hk2 W h).2.2.2.1
  have b4 := fun W (h : WRel B b w1 W) => (hk2 W h).2.2.2.2
  clear hk1 hk2 hc hc2
  have hA := (hst2.out).addD [[99, 111, 117, 110, 116, 32], v.text, [32]] (by simp) (by simp; omega)
  simp only [List.flatten_cons, List.flatten_nil, List.append_nil, List.map_cons, List.map_nil, List.length_cons, List.length_nil] at hA
  replace hA := qh hA
  have hdr := Q2u hR
  have hdb : Below w1.heap.size w1 w1.drew := (Below.refl _ _).drew
  have fw := fun W (h : WRel B b w1 W) => hFr.w h
  have fk := fun W (h : WRel B b w1 W) => hFr.kd h
  have f0 := fun W (h : WRel B b w1 W) => hFr.t0 h
  have f1 := fun W (h : WRel B b w1 W) => hFr.t1 h
  have f2 := fun W (h : WRel B b w1 W) => hFr.t2 h
  have f4 := fun W (h : WRel B b w1 W) => hFr.t4 h
  clear g0 g1 c0 c1 c2 c3 c4
  go_region_held2 (fun W => WRel B b w1 W) (with_reducible first | assumption | exact Q6s (by assumption) hB1 _ | exact Q2u (Q6s (by assumption) hB1 _)) (first | (go_at_call 53; (with_reducible refine (hA.out).mono ?_); rintro e x6 ⟨rfl, hst3⟩; have r6 := hst3.rel))
  all_goals
   go_wp2_with fail
   have hst4 := qh (hst3.step (Below.refl _ _).drew)
   have hdr6 := Q2u hst3.rel
   go_region_held2 (fun W => WRel B b w1 W) (with_reducible first | assumption) (first | (go_at_call 106; (with_reducible refine (hO.out _ _ _ hst4.out (by simp only [List.length_append, List.length_cons, List.length_nil]; omega)).mono ?_); rintro e x7 ⟨rfl, hst5⟩; have r7 := hst5.rel))
   all_goals
    go_wp2_with fail
    go_end0
    refine ⟨rfl, ?_⟩
    rw [htxt.out]
    have h := hst1.out.call hst5
    simp only [List.append_assoc] at h
    exact h
 ·rw [if_neg h0] at hlen ⊢
  clear hpx hO
  have h0b : (tx == [99, 111, 117, 110, 116]) = false := by simp; exact h0
  have h0c : ¬ tx = [99, 111, 117, 110, 116] := h0
  simp only [List.length_append, List.length_cons, List.length_nil] at hlen
  obtain ⟨txt, htxt⟩ : ∃ r, Hid (r = l ++ (tx ++ ([32] ++ (v.text ++ ([58, 32] ++ wx))))) := ⟨_, qh rfl⟩
  rw [← htxt.out]
  have hFr := Q2z (Q0o hst.wr).2 (0 : Nat) 13 tx n a (some ⟨bb, o, none⟩) 2 d
  have hst1 := hst.step (Q0s w b (0 : Nat) 13 tx n a (some ⟨bb, o, none⟩) 2 d)
  have hB1 : B ≤ (Q0e w b (0 : Nat) 13 tx n a (some ⟨bb, o, none⟩) 2 d).heap.size := Nat.le_trans hst.ge (Q0s w b (0 : Nat) 13 tx n a (some ⟨bb, o, none⟩) 2 d).size
  unfold Q0e boxed at hFr hst1 hB1
  go_enter Tryz.func57, Tryz.ntmps57
  go_upto_region 10 with (fail)
  generalize World.alloc (World.alloc (World.alloc w _) _) _ = w1 at hFr hst1 hB1 ⊢
  generalize w.heap.size = s at hFr ⊢
  have hR := WRel.refl B b w1
  have g0 := hFr.w hR
  have g1 := hFr.kd hR
  have c0 := hFr.t0 hR
  have c1 := hFr.t1 hR
  have c2 := hFr.t2 hR
  have c3 := hFr.t3 hR
  have c4 := hFr.t4 hR
  have hst2 := qh (hst1.fresh)
  replace hst1 := qh hst1
  have hk1 := fun W (h : WRel B b w1 W) => Q41 hc hst1.out.tree hst.low h
  have hk2 := fun W (h : WRel B b w1 W) => Q41 hc2 hst1.out.tree hst.low h
  have a0 := fun W (h : WRel B b w1 W) => (hk1 W h).2.1
  have b0 := fun W (h : WRel B b w1 W) => (hk2 W h).1
  have b1 := fun W (h : WRel B b w1 W) => (hk2 W h).2.1
  have b2 := fun W (h : WRel B b w1 W) => (hk2 W h).2.2.1
  have b3 := fun W (h : WRel B b w1 W) => (hk2 W h).2.2.2.1
  have b4 := fun W (h : WRel B b w1 W) => (hk2 W h).2.2.2.2
  clear hk1 hk2 hc hc2
  have hA := (hst2.out).addD [tx, [32], v.text, [58, 32]] (by simp) (by simp; omega)
  simp only [List.flatten_cons, List.flatten_nil, List.append_nil, List.map_cons, List.map_nil, List.length_cons, List.length_nil] at hA
  replace hA := qh hA
  have hdr := Q2u hR
  go_upto_region 13 with (fail)
  have fw := fun W (h : WRel B b w1 W) => hFr.w h
  have fk := fun W (h : WRel B b w1 W) => hFr.kd h
  have f0 := fun W (h : WRel B b w1 W) => hFr.t0 h
  have f1 := fun W (h : WRel B b w1 W) => hFr.t1 h
  have f2 := fun W (h : WRel B b w1 W) => hFr.t2 h
  have f4 := fun W (h : WRel B b w1 W) => hFr.t4 h
  clear g0 g1 c0 c1 c2 c3 c4
  go_region_held2 (fun W => WRel B b w1 W) (with_reducible first | assumption | exact Q6s (by assumption) hB1 _ | exact Q2u (Q6s (by assumption) hB1 _)) (first | (go_at_call 53; (with_reducible refine (hA.out).mono ?_); rintro e x6 ⟨rfl, hst3⟩; have r6 := hst3.rel))
  all_goals
   go_wp2_with fail
   have hst4 := qh (hst3.step (Below.refl _ _).drew)
   have hdr6 := Q2u hst3.rel
   go_region_held2 (fun W => WRel B b w1 W) (with_reducible first | assumption) (first | (go_at_call 57; (with_reducible refine (hNx.out _ _ _ hst4.out (by simp only [List.length_append, List.length_cons, List.length_nil]; omega)).mono ?_); rintro e x7 ⟨rfl, hst5⟩; have r7 := hst5.rel))
   all_goals
    go_wp2_with fail
    go_end0
    refine ⟨rfl, ?_⟩
    rw [htxt.out]
    have h := hst1.out.call hst5
    simp only [List.append_assoc] at h
    exact h
section
attribute [local go_sem ↓] Q82
attribute [local go_sem] Qgz Qg5
theorem Qc6 {k M o1 l1 r1 : Nat} {tx : List UInt8} {W : World} {o : Oper} {a : Act} {K : Act → World → Prop} {Q : Exit → Act → World → Prop} {x y : Operand} (h : Q1d k W M) (e1 : Hid (o1 = own k tx)) (e2 : Hid (l1 = lft k tx)) (e3 : Hid (r1 = rgt k tx)) (ho : o.op = .lookup 120 x y false)
  (hx : a.eval x = .map (some M)) (hy : a.eval y = .string ⟨tx.toArray⟩) (hgo : K (a.put o.dst (.agg #[.int .i64 o1, .int .i64 l1, .int .i64 r1])) W) : Q4q o a W K Q :=
 Qe1 h ho hx hy (by rw [← e1.out, ← e2.out, ← e3.out]; exact hgo)
theorem Q1d.set {k M B : Nat} {W : World} (h : Q1d k W M) (hs : Qi W B) (v0 v1 v2 v3 v4 : Value) : Q1d k (setSyn W B v0 v1 v2 v3 v4) M := by
 obtain ⟨L, ⟨ck, hm⟩, h⟩ := h
 obtain ⟨a, b, c, d, e, T, hs⟩ := hs
 refine ⟨L, ⟨ck, ?_⟩, h⟩
 rw [Q0v (fun e => ?_)]
 ·exact hm
 ·subst e; rw [hm] at hs; cases hs
theorem Qke (tx : List UInt8) (n a : Int) (y x : Syn) (q : Option Addr) (d : Nat) (w : World) (hks : KidR w [y, x] (.slice q [y, x].length d))
  (hX : ∀ q d W, KidR W x.kids (.slice q x.kids.length d) → Calls Tryz.prog 107 #[Q3 x q d] W (Q6 W (opn x))) : Calls Tryz.prog 107 #[(Value.agg #[.int .i64 11, .string ⟨List.toArray tx⟩, .int .i64 n, .int .i64 a, .slice q 2 d])] w (Q6 w (opn (.mk 11 tx n a [y, x]))) := by
 have hr : opn (.mk 11 tx n a [y, x]) = (decide (rgt 0 tx ≤ lvl 0 x) && opn x) := by simp [opn]
 rw [hr]
 obtain ⟨b, o, -, -, rfl, -, -⟩ := Q2q hks (by simp)
 obtain ⟨q', d', hc, hkk⟩ := Q63 hks (by simp)
 simp only [List.getElem_cons_zero, List.getElem_cons_succ] at hc hkk
 have hL : ∀ W, Calls Tryz.prog 149 #[.int .i64 0, Q3 x q' d'] W (Q30 W (lvl 0 x)) := fun W => Qaj 0 (by omega) x.kind x.text x.num x.pos x.kids q' x.kids.length d' W
 have hO := fun W (h : Below w.heap.size w W) => hX q' d' W (hkk.low h)
 clear hr hX
 generalize lvl 0 x = lx at *
 generalize opn x = ox at *
 obtain ⟨rx, hrx⟩ : ∃ r, Hid (r = rgt 0 tx) := ⟨_, qh rfl⟩
 rw [← hrx.out]
 obtain ⟨o1, ho1⟩ : ∃ r, Hid (r = own 0 tx) := ⟨_, qh rfl⟩
 obtain ⟨l1, hl1⟩ : ∃ r, Hid (r = lft 0 tx) := ⟨_, qh rfl⟩
 have el : ((rx : Int) ≤ lx) = (rx ≤ lx) := by rw [eq_iff_iff]; omega
 replace el := qh el
 replace hL := qh hL
 replace hO := qh hO
 replace hc := qh (fun W (h : Below w.heap.size w W) => Ql hc h)
 clear hks hkk
 have hB := Q93 w 11 tx n a (some ⟨b, o, none⟩) 2 d
 have hC := Q9p w 11 tx n a (some ⟨b, o, none⟩) 2 d
 have hS := Q94 w 11 tx n a (some ⟨b, o, none⟩) 2 d
 unfold opened boxed zSyn at hB hC hS
 go_enter Tryz.func107, Tryz.ntmps107
 go_upto_region 3 with (fail)
 generalize World.alloc (World.alloc w _) _ = w1 at hB hC hS ⊢
 have hLM : w.heap.size < w.heap.size + 1 := Nat.lt_succ_self _
 generalize w.heap.size + 1 = M at hLM hS ⊢
 obtain ⟨c0, c1, c2, c3, c4⟩ := hC
 replace hB := qh hB
 go_upto_region 8 with (fail)
 have hMw : M < w1.heap.size := by obtain ⟨_, _, _, _, _, _, h⟩ := hS; exact (Array.getElem?_eq_some_iff.1 h).1
 have hlow : ∀ W B o v, B < M → Below M w1 W → w1.cell? ⟨B, o, none⟩ = some v → W.cell? ⟨B, o, none⟩ = some v := fun W B o v hBM h e => by rw [h.cell (p := ⟨B, o, none⟩) hBM]; exact e
 have c1' := fun W (h : Below M w1 W) => hlow W _ _ _ hLM h c1
 have c4' := fun W (h : Below M w1 W) => hlow W _ _ _ hLM h c4
 have hbM : b < M := by
  have h := World.block_lt_of_cell? _ _ (hc.out w (Below.refl _ _)).1
  exact Nat.lt_trans h hLM
 obtain ⟨e0, e1, e2, e3, e4⟩ := hc.out w1 hB.out
 have d0 := fun W (h : Below M w1 W) => hlow W _ _ _ hbM h e0
 have d1 := fun W (h : Below M w1 W) => hlow W _ _ _ hbM h e1
 have d2 := fun W (h : Below M w1 W) => hlow W _ _ _ hbM h e2
 have d3 := fun W (h : Below M w1 W) => hlow W _ _ _ hbM h e3
 have d4 := fun W (h : Below M w1 W) => hlow W _ _ _ hbM h e4
 have hP : ∀ W, Below M w1 W → Calls Tryz.prog 102 #[.int .i64 0] W fun e w' => ∃ M', e = .returned (.map (some M')) ∧ Q1d 0 w' M' ∧ Below M w1 w' ∧ Below W.heap.size W w' := fun W h =>
  (Qc2 0 (by omega) W).mono fun e w' ⟨M', h1, h2, h3⟩ => ⟨M', h1, h2, h.trans (h3.mono (Nat.le_trans (Nat.le_of_lt hMw) h.size)), h3⟩
 replace hP := qh hP
 clear hlow e0 e1 e2 e3 e4 c0 c2 c3 c1 c4
 have hdr : Below M w1 w1.drew := ((Below.refl _ _).mono (Nat.le_of_lt hMw)).drew
 have hS' : Qi w1.drew M := Qi.drew hS
 go_region_held2 (fun W => Below M w1 W) (with_reducible first | assumption | exact Qaw (by assumption) (Nat.le_refl _) _ _ _ _ _) (first | (go_at_call 102; (with_reducible refine (hP.out _ (by assumption)).mono ?_); rintro e x5 ⟨M', rfl, hO2, b6, b7⟩; with_reducible first | (have hq := Qtm hS' b7) | (have hF := Qs (Qca hS' _ _ _ _ _) b7)) | (with_reducible show Q4q _ _ (setSyn _ _ _ _ _ _ _) _ _; refine Qc6 (Q1d.set hO2 hq _ _ _ _ _) ho1 hl1 hrx rfl rfl rfl ?_) | (refine Qc6 hO2 ho1 hl1 hrx rfl rfl rfl ?_))
 all_goals
  have hF := Qca hq (.int .i64 x.kind) (.string ⟨x.text.toArray⟩) (.int .i64 x.num) (.int .i64 x.pos) (.slice q' x.kids.length d')
  have hB2 := qh (hB.out.trans (Below.mono (Qaw b6 (Nat.le_refl _) (.int .i64 x.kind) (.string ⟨x.text.toArray⟩) (.int .i64 x.num) (.int .i64 x.pos) (.slice q' x.kids.length d')) (Nat.le_of_lt hLM)))
  clear d0 d1 d2 d3 d4 c1' c4' hdr hS' hq hS hP
  generalize setSyn x5 M _ _ _ _ _ = w2 at hF hB2 ⊢
  obtain ⟨c0, c1, c2, c3, c4⟩ := hF
  go_wp2_with (first | (go_at_call 149; (with_reducible refine (hL.out _).mono ?_); rintro e x3 ⟨rfl, b3⟩; obtain ⟨g0, g1, g2, g3, g4⟩ := Qs ⟨c0, c1, c2, c3, c4⟩ b3; have hB3 := qh (hB2.out.trans (b3.mono hB2.out.size))) | (go_at_call 107; (with_reducible refine (hO.out _ hB3.out).mono ?_); rintro e x4 ⟨rfl, b4⟩))
  all_goals
   go_ret
   refine ⟨Q4 ?_, by first | exact hB3.out | exact hB3.out.trans (b4.mono hB3.out.size)⟩
   rcases Nat.lt_or_ge lx rx with h | h <;> simp_all <;> omega
theorem Qnn : ∀ (m : Nat) (t : Syn), SizeOf.sizeOf t < m → okc t = true → ∀ (q : Option Addr) (d : Nat) (W : World), KidR W t.kids (.slice q t.kids.length d) → Calls Tryz.prog 107 #[Q3 t q d] W (Q6 W (opn t)) := by
 intro m
 induction m with
 | zero => intro t h; omega
 | succ m ih =>
  intro t hm ho q d W hks
  obtain ⟨kd, tx, n, a, ks⟩ := t
  have hks : KidR W ks (.slice q ks.length d) := hks
  by_cases h13 : kd = 13
  ·subst h13; exact Qop tx n a ks q ks.length d W
  by_cases h12 : kd = 12
  ·subst h12
   obtain ⟨x, rfl, hx⟩ := okc12 ho
   simp only [Syn.mk.sizeOf_spec, List.cons.sizeOf_spec, List.nil.sizeOf_spec] at hm
   exact Qo6 tx n a x q d W hks (fun q d W h => ih x (by omega) hx q d W h)
  by_cases h11 : kd = 11
  ·subst h11
   obtain ⟨y, x, rfl, hy, hx⟩ := okc11 ho
   simp only [Syn.mk.sizeOf_spec, List.cons.sizeOf_spec, List.nil.sizeOf_spec] at hm
   exact Qke tx n a y x q d W hks (fun q d W h => ih x (by omega) hx q d W h)
  exact Qqt kd tx n a ks q ks.length d W h11 h12 h13
theorem Qsw (t : Syn) (ho : okc t = true) (q : Option Addr) (d : Nat) (W : World) (hks : KidR W t.kids (.slice q t.kids.length d)) : Calls Tryz.prog 107 #[Q3 t q d] W (Q6 W (opn t)) := Qnn _ t (Nat.lt_succ_self _) ho q d W hks
end
end Go.Proofs.YtplbfmcgddnkeaaGreatDoor
