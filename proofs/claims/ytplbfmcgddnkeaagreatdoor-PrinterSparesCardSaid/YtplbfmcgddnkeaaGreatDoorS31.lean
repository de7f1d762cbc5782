/- Joined: Tx, Wk, KrT. -/
import Derived.Test.YtplbfmcgddnkeaaGreatDoorS24
import Derived.Test.YtplbfmcgddnkeaaGreatDoorS10
import Derived.Test.YtplbfmcgddnkeaaGreatDoorS14
import Derived.Test.YtplbfmcgddnkeaaGreatDoorS30
import Derived.Test.YtplbfmcgddnkeaaGreatDoorS16
import Derived.Test.YtplbfmcgddnkeaaGreatDoorS08
import Derived.Test.YtplbfmcgddnkeaaGreatDoorS15
import Derived.Test.YtplbfmcgddnkeaaGreatDoorS04
set_option linter.unusedVariables false
set_option linter.unusedSimpArgs false
section
set_option maxHeartbeats 4000000
set_option maxRecDepth 100000
namespace Go.Proofs.YtplbfmcgddnkeaaGreatDoor
open Go.RowKit
def errO (o : Out Syn) : Nat := match o with | .err _ e => e | _ => 0
def TPost (w : World) (r : List UInt8 × Nat) (e : Ending) (w' : World) : Prop := e = .returned (.tuple #[.string ⟨r.1.toArray⟩, .int .i64 r.2]) ∧ Below w.heap.size w w'
def printO (ok : Bool) (s : List UInt8) (o : Out Syn) : List UInt8 × Nat := if ok then if 65536 < s.length then ([], 13) else if errO o = 0 then (s, 0) else ([], errO o) else ([], 3)
theorem pres_norm {W w' : World} {o : Out Syn} {e : Ending} (h : PRes W o e w') : Below W.heap.size W w' ∧ ∃ (kd n a z : Int) (tx : List UInt8) (p : Option Addr) (m c : Nat), e = .returned (.tuple #[(Value.agg #[.int .i64 kd, .string ⟨List.toArray tx⟩, .int .i64 n, .int .i64 a, .slice p m c]), .int .i64 z, .int .i64 (errO o)]) := by
  obtain ⟨hb, h⟩ := h
  refine ⟨hb, ?_⟩
  cases o with
  | none => exact h.elim
  | err p x => exact ⟨0, 0, 0, p, [], none, 0, 0, h⟩
  | ok t i =>
    obtain ⟨v, h1, kv, rfl, hk⟩ := h
    obtain ⟨p, c, rfl, -⟩ := kids_form hk
    exact ⟨_, _, _, _, _, _, _, _, h1⟩
abbrev zWr : Obj := .cells #[.pointer none, .slice none 0 0] 77
theorem wr_new (w : World) : IsWr w.heap.size w.heap.size [] (w.alloc zWr) := Lib.fresh_isBuilder 77 5 w
theorem valid_post {k : Nat} (hk : k ≤ 2) {t : Syn} (hM : Mod t) {q : Option Addr} {d : Nat} {w : World} (hg : SignsAt w) (hsp : SpaceAt w) (hks : KidR w t.kids (.slice q t.kids.length d)) (W : World) (hb : Below w.heap.size w W) :
    Calls Tryz.prog 56 #[.int .i64 k, nodeV t q d] W (VPost W (okP k t)) := tree_valid t hM k hk q d W (signs_low hg hb) (hsp.below hb) (hks.low hb)
theorem ptext_Cond (t : Syn) (hM : Mod t) (q : Option Addr) (d : Nat) (w : World) (hE : PEnv w) (ht : TabW w) (hks : KidR w t.kids (.slice q t.kids.length d)) (hbig : okP 0 t = true → (wrN 0 t).length ≤ 140737488355328 ∧ wrN 0 t ≠ []) :
    Calls Tryz.prog 31 #[.int .i64 0, nodeV t q d, .func (.func 20) #[] #[]] w (TPost w (printO (okP 0 t) (wrN 0 t) (parseO (wrN 0 t) (rdO .cond)))) := by
  have hV := fun W (hb : Below w.heap.size w W) => (show Calls Tryz.prog 56 #[.int .i64 0, nodeV t q d] W (VPost W (okP 0 t)) from valid_post (k := 0) (by omega) hM hE.signs hE.space hks W hb)
  have hN : okP 0 t = true → ∀ B b l W w1, WSt w w1 B b l W → l.length + (wrN 0 t).length ≤ 140737488355328 → Calls Tryz.prog 57 #[.pointer (some ⟨b, 0, none⟩), .int .i64 0, nodeV t q d] W fun e w' => e = .returned (.tuple #[]) ∧ WSt w w1 B b (l ++ wrN 0 t) w' :=
    fun ho B b l W w1 h hl => tree_node ht B b t hM 0 (by omega) (Or.inl ho) q d hks w1 l W h hl
  have hR : (wrN 0 t).length ≤ 65536 → ∀ W, Below w.heap.size w W → Calls Tryz.prog 20 #[.string ⟨(wrN 0 t).toArray⟩] W fun e w' => Below W.heap.size W w' ∧ ∃ (kd n a z : Int) (tx : List UInt8) (p : Option Addr) (m c : Nat), e = .returned (.tuple #[(Value.agg #[.int .i64 kd, .string ⟨List.toArray tx⟩, .int .i64 n, .int .i64 a, .slice p m c]), .int .i64 z, .int .i64 (errO (parseO (wrN 0 t) (rdO .cond)))]) :=
    fun hl W hb => (fullCond_any _ W (by omega) (hE.below hb)).mono fun e w' h => pres_norm h
  generalize parseO (wrN 0 t) (rdO .cond) = o at *
  generalize wrN 0 t = txt at *
  generalize okP 0 t = ok at *
  obtain ⟨res, hres⟩ : ∃ r, Hid (r = printO ok txt o) := ⟨_, Lib.hid rfl⟩
  rw [← hres.out]
  obtain ⟨er, her⟩ : ∃ r, Hid (r = errO o) := ⟨_, Lib.hid rfl⟩
  rw [← her.out] at hR
  replace hres := Lib.hid (hres.out.trans (show _ = (if ok then if 65536 < txt.length then (([] : List UInt8), 13) else if errO o = 0 then (txt, 0) else ([], errO o) else ([], 3)) from rfl))
  rw [← her.out] at hres
  clear her
  obtain ⟨kd, tx, n, a, ks⟩ := t
  replace hV : ∀ W (hb : Below w.heap.size w W), Calls Tryz.prog 56 #[.int .i64 0, (Value.agg #[.int .i64 kd, .string ⟨List.toArray tx⟩, .int .i64 n, .int .i64 a, .slice q ks.length d])] W (VPost W ok) := hV
  replace hN : ok = true → ∀ B b l W w1, WSt w w1 B b l W → l.length + txt.length ≤ 140737488355328 → Calls Tryz.prog 57 #[.pointer (some ⟨b, 0, none⟩), .int .i64 0, (Value.agg #[.int .i64 kd, .string ⟨List.toArray tx⟩, .int .i64 n, .int .i64 a, .slice q ks.length d])] W fun e w' => e = .returned (.tuple #[]) ∧ WSt w w1 B b (l ++ txt) w' := hN
  show Calls Tryz.prog 31 #[.int .i64 0, (Value.agg #[.int .i64 kd, .string ⟨List.toArray tx⟩, .int .i64 n, .int .i64 a, .slice q ks.length d]), .func (.func 20) #[] #[]] w (TPost w res)
  clear hks hM hE ht
  generalize ks.length = m at *
  replace hV := Lib.hid hV
  replace hN := Lib.hid hN
  replace hR := Lib.hid hR
  replace hbig := Lib.hid hbig
  have hB := boxed_below w kd tx n a q m d
  have hC := five (boxed_new w kd tx n a q m d)
  have hsz : (boxed w kd tx n a q m d).heap.size = w.heap.size + 1 := World.size_alloc ..
  have hw := wr_new (boxed w kd tx n a q m d)
  have hB2 : Below w.heap.size w ((boxed w kd tx n a q m d).alloc zWr) := hB.alloc (by rw [hsz]; omega) _
  have hC2 := five_low hC ((Below.refl _ _).alloc (Nat.le_refl _) zWr)
  rw [hsz] at hw
  clear hB hC hsz
  unfold boxed zWr at hw hB2 hC2
  go_enter Tryz.func31, Tryz.ntmps31
  go_upto_region 11 with (fail)
  generalize World.alloc (World.alloc w _) _ = w1 at hw hB2 hC2 ⊢
  have hBb : w.heap.size ≤ w.heap.size + 1 := Nat.le_succ _
  generalize w.heap.size + 1 = b at hw hBb ⊢
  obtain ⟨c0, c1, c2, c3, c4⟩ := hC2
  replace hw := Lib.hid hw
  replace hB2 := Lib.hid hB2
  cases ok with
  | false =>
    go_wp2_with (first | (go_at_call 56; (with_reducible refine (hV.out _ hB2.out).mono ?_); rintro e x2 ⟨rfl, b2⟩))
    all_goals
      go_ret2
      refine ⟨?_, hB2.out.trans (b2.mono hB2.out.size)⟩
      rw [hres.out]
      rfl
  | true =>
    obtain ⟨hbl, hne⟩ := hbig.out (by first | rfl | trivial)
    replace hres := Lib.hid (hres.out.trans (if_pos rfl))
    go_wp2_with (first | (go_at_call 56; (with_reducible refine (hV.out _ hB2.out).mono ?_); rintro e x2 ⟨rfl, b2⟩; obtain ⟨d0, d1, d2, d3, d4⟩ := five_low ⟨c0, c1, c2, c3, c4⟩ b2))
    have hst := WSt.begin (w0 := w) (wr_low hw.out b2) (hB2.out.trans (b2.mono hB2.out.size)) hBb (Nat.le_of_lt (wr_lt (wr_low hw.out b2)).2)
    have hN2 := hN.out (by first | rfl | trivial) b b [] x2 x2 hst (by simpa using hbl)
    rw [List.nil_append] at hN2
    replace hN2 := Lib.hid hN2
    go_wp2_with (first | (go_at_call 57; (with_reducible refine (hN2.out).mono ?_); rintro e x3 ⟨rfl, hst3⟩))
    have hT := wrtext_of hst3.wr hne
    have hL := wr_len b b txt x3 hT
    have hB3 := Lib.hid hst3.tree
    have hbB := hst3.low
    replace hst3 := Lib.hid hst3
    by_cases hl : 65536 < txt.length
    · replace hres := Lib.hid (hres.out.trans (if_pos hl))
      have hli : (65536 : Int) < txt.length := by omega
      replace hL := Lib.hid hL
      go_wp2_with (first | (go_at_call 58; (with_reducible refine (hL.out).mono ?_); rintro e w' ⟨rfl, rfl⟩))
      all_goals
        go_ret2
        refine ⟨?_, hB3.out⟩
        rw [hres.out]
        rfl
    · replace hres := Lib.hid (hres.out.trans (if_neg hl))
      have hli : ¬ (65536 : Int) < txt.length := by omega
      have hS1 := Lib.hid (wr_string b b txt x3 hT hne)
      replace hL := Lib.hid hL
      replace hT := Lib.hid hT
      have hRl := Lib.hid (hR.out (by omega))
      go_wp2_with (first | (go_at_call 58; (with_reducible refine (hL.out).mono ?_); rintro e w' ⟨rfl, rfl⟩) | (go_at_call 59; (with_reducible refine (hS1.out).mono ?_); rintro e x4 ⟨rfl, hT4, b4⟩; have hB4 := Lib.hid (hB3.out.trans (b4.mono hbB))))
      by_cases her : er = 0
      · have hei : (er : Int) = 0 := by omega
        replace hres := Lib.hid (hres.out.trans (if_pos her))
        clear her
        go_wp2_with (first | (go_at_call 20; (with_reducible refine (hRl.out _ hB4.out).mono ?_); rintro e x5 ⟨b5, kd', n', a', z', tx', p', m', c', rfl⟩; have hB5 := Lib.hid (hB4.out.trans (b5.mono hB4.out.size)); have hS2 := Lib.hid (fun W (h : Below x5.heap.size x5 W) => wr_string b b txt W ((hT4.low b5).low h) hne)) | (go_at_call 59; (with_reducible refine (hS2.out _ ((Below.refl _ _).alloc (Nat.le_refl _) _)).mono ?_); rintro e x6 ⟨rfl, hT6, b6⟩))
        all_goals
          go_ret2
          refine ⟨?_, (hB5.out.alloc hB5.out.size _).trans (b6.mono hbB)⟩
          rw [hres.out]
          rfl
      · have hei : ¬ (er : Int) = 0 := by omega
        replace hres := Lib.hid (hres.out.trans (if_neg her))
        go_wp2_with (first | (go_at_call 20; (with_reducible refine (hRl.out _ hB4.out).mono ?_); rintro e x5 ⟨b5, kd', n', a', z', tx', p', m', c', rfl⟩; have hB5 := Lib.hid (hB4.out.trans (b5.mono hB4.out.size))))
        all_goals
          go_ret2
          refine ⟨?_, hB5.out.alloc hB5.out.size _⟩
          rw [hres.out]
          rfl
theorem pCond_any (t : Syn) (hM : Mod t) (q : Option Addr) (d : Nat) (w : World) (hE : PEnv w) (ht : TabW w) (hks : KidR w t.kids (.slice q t.kids.length d)) (hbig : okP 0 t = true → (wrN 0 t).length ≤ 140737488355328 ∧ wrN 0 t ≠ []) :
    Calls Tryz.prog 11 #[nodeV t q d] w (TPost w (printO (okP 0 t) (wrN 0 t) (parseO (wrN 0 t) (rdO .cond)))) := by
  have hT := fun W (hb : Below w.heap.size w W) => ptext_Cond t hM q d W (hE.below hb) (tab_low ht hb) (hks.low hb) hbig
  generalize printO (okP 0 t) (wrN 0 t) (parseO (wrN 0 t) (rdO .cond)) = res at *
  obtain ⟨kd, tx, n, a, ks⟩ := t
  replace hT : ∀ W (hb : Below w.heap.size w W), Calls Tryz.prog 31 #[.int .i64 0, (Value.agg #[.int .i64 kd, .string ⟨List.toArray tx⟩, .int .i64 n, .int .i64 a, .slice q ks.length d]), .func (.func 20) #[] #[]] W (TPost W res) := hT
  show Calls Tryz.prog 11 #[(Value.agg #[.int .i64 kd, .string ⟨List.toArray tx⟩, .int .i64 n, .int .i64 a, .slice q ks.length d])] w (TPost w res)
  clear hbig hks hM hE ht
  generalize ks.length = m at *
  replace hT := Lib.hid hT
  have hB := boxed_below w kd tx n a q m d
  have hC := boxed_new w kd tx n a q m d
  unfold boxed at hB hC
  go_enter Tryz.func11, Tryz.ntmps11
  go_upto_region 1 with (fail)
  generalize World.alloc w _ = w1 at hB hC ⊢
  obtain ⟨c0, c1, c2, c3, c4⟩ := five hC
  replace hB := Lib.hid hB
  replace hC := Lib.hid hC
  go_wp2_with (first | (go_at_call 31; (with_reducible refine (hT.out _ hB.out).mono ?_); rintro e x2 ⟨rfl, b2⟩))
  all_goals
    go_ret2
    exact ⟨rfl, hB.out.trans (b2.mono hB.out.size)⟩
theorem ptext_Scheme (t : Syn) (hM : Mod t) (q : Option Addr) (d : Nat) (w : World) (hE : PEnv w) (ht : TabW w) (hks : KidR w t.kids (.slice q t.kids.length d)) (hbig : okP 1 t = true → (wrN 1 t).length ≤ 140737488355328 ∧ wrN 1 t ≠ []) :
    Calls Tryz.prog 31 #[.int .i64 1, nodeV t q d, .func (.func 21) #[] #[]] w (TPost w (printO (okP 1 t) (wrN 1 t) (parseO (wrN 1 t) (rdO .scheme)))) := by
  have hV := fun W (hb : Below w.heap.size w W) => (show Calls Tryz.prog 56 #[.int .i64 1, nodeV t q d] W (VPost W (okP 1 t)) from valid_post (k := 1) (by omega) hM hE.signs hE.space hks W hb)
  have hN : okP 1 t = true → ∀ B b l W w1, WSt w w1 B b l W → l.length + (wrN 1 t).length ≤ 140737488355328 → Calls Tryz.prog 57 #[.pointer (some ⟨b, 0, none⟩), .int .i64 1, nodeV t q d] W fun e w' => e = .returned (.tuple #[]) ∧ WSt w w1 B b (l ++ wrN 1 t) w' :=
    fun ho B b l W w1 h hl => tree_node ht B b t hM 1 (by omega) (Or.inl ho) q d hks w1 l W h hl
  have hR : (wrN 1 t).length ≤ 65536 → ∀ W, Below w.heap.size w W → Calls Tryz.prog 21 #[.string ⟨(wrN 1 t).toArray⟩] W fun e w' => Below W.heap.size W w' ∧ ∃ (kd n a z : Int) (tx : List UInt8) (p : Option Addr) (m c : Nat), e = .returned (.tuple #[(Value.agg #[.int .i64 kd, .string ⟨List.toArray tx⟩, .int .i64 n, .int .i64 a, .slice p m c]), .int .i64 z, .int .i64 (errO (parseO (wrN 1 t) (rdO .scheme)))]) :=
    fun hl W hb => (fullScheme_any _ W (by omega) (hE.below hb)).mono fun e w' h => pres_norm h
  generalize parseO (wrN 1 t) (rdO .scheme) = o at *
  generalize wrN 1 t = txt at *
  generalize okP 1 t = ok at *
  obtain ⟨res, hres⟩ : ∃ r, Hid (r = printO ok txt o) := ⟨_, Lib.hid rfl⟩
  rw [← hres.out]
  obtain ⟨er, her⟩ : ∃ r, Hid (r = errO o) := ⟨_, Lib.hid rfl⟩
  rw [← her.out] at hR
  replace hres := Lib.hid (hres.out.trans (show _ = (if ok then if 65536 < txt.length then (([] : List UInt8), 13) else if errO o = 0 then (txt, 0) else ([], errO o) else ([], 3)) from rfl))
  rw [← her.out] at hres
  clear her
  obtain ⟨kd, tx, n, a, ks⟩ := t
  replace hV : ∀ W (hb : Below w.heap.size w W), Calls Tryz.prog 56 #[.int .i64 1, (Value.agg #[.int .i64 kd, .string ⟨List.toArray tx⟩, .int .i64 n, .int .i64 a, .slice q ks.length d])] W (VPost W ok) := hV
  replace hN : ok = true → ∀ B b l W w1, WSt w w1 B b l W → l.length + txt.length ≤ 140737488355328 → Calls Tryz.prog 57 #[.pointer (some ⟨b, 0, none⟩), .int .i64 1, (Value.agg #[.int .i64 kd, .string ⟨List.toArray tx⟩, .int .i64 n, .int .i64 a, .slice q ks.length d])] W fun e w' => e = .returned (.tuple #[]) ∧ WSt w w1 B b (l ++ txt) w' := hN
  show Calls Tryz.prog 31 #[.int .i64 1, (Value.agg #[.int .i64 kd, .string ⟨List.toArray tx⟩, .int .i64 n, .int .i64 a, .slice q ks.length d]), .func (.func 21) #[] #[]] w (TPost w res)
  clear hks hM hE ht
  generalize ks.length = m at *
  replace hV := Lib.hid hV
  replace hN := Lib.hid hN
  replace hR := Lib.hid hR
  replace hbig := Lib.hid hbig
  have hB := boxed_below w kd tx n a q m d
  have hC := five (boxed_new w kd tx n a q m d)
  have hsz : (boxed w kd tx n a q m d).heap.size = w.heap.size + 1 := World.size_alloc ..
  have hw := wr_new (boxed w kd tx n a q m d)
  have hB2 : Below w.heap.size w ((boxed w kd tx n a q m d).alloc zWr) := hB.alloc (by rw [hsz]; omega) _
  have hC2 := five_low hC ((Below.refl _ _).alloc (Nat.le_refl _) zWr)
  rw [hsz] at hw
  clear hB hC hsz
  unfold boxed zWr at hw hB2 hC2
  go_enter Tryz.func31, Tryz.ntmps31
  go_upto_region 11 with (fail)
  generalize World.alloc (World.alloc w _) _ = w1 at hw hB2 hC2 ⊢
  have hBb : w.heap.size ≤ w.heap.size + 1 := Nat.le_succ _
  generalize w.heap.size + 1 = b at hw hBb ⊢
  obtain ⟨c0, c1, c2, c3, c4⟩ := hC2
  replace hw := Lib.hid hw
  replace hB2 := Lib.hid hB2
  cases ok with
  | false =>
    go_wp2_with (first | (go_at_call 56; (with_reducible refine (hV.out _ hB2.out).mono ?_); rintro e x2 ⟨rfl, b2⟩))
    all_goals
      go_ret2
      refine ⟨?_, hB2.out.trans (b2.mono hB2.out.size)⟩
      rw [hres.out]
      rfl
  | true =>
    obtain ⟨hbl, hne⟩ := hbig.out (by first | rfl | trivial)
    replace hres := Lib.hid (hres.out.trans (if_pos rfl))
    go_wp2_with (first | (go_at_call 56; (with_reducible refine (hV.out _ hB2.out).mono ?_); rintro e x2 ⟨rfl, b2⟩; obtain ⟨d0, d1, d2, d3, d4⟩ := five_low ⟨c0, c1, c2, c3, c4⟩ b2))
    have hst := WSt.begin (w0 := w) (wr_low hw.out b2) (hB2.out.trans (b2.mono hB2.out.size)) hBb (Nat.le_of_lt (wr_lt (wr_low hw.out b2)).2)
    have hN2 := hN.out (by first | rfl | trivial) b b [] x2 x2 hst (by simpa using hbl)
    rw [List.nil_append] at hN2
    replace hN2 := Lib.hid hN2
    go_wp2_with (first | (go_at_call 57; (with_reducible refine (hN2.out).mono ?_); rintro e x3 ⟨rfl, hst3⟩))
    have hT := wrtext_of hst3.wr hne
    have hL := wr_len b b txt x3 hT
    have hB3 := Lib.hid hst3.tree
    have hbB := hst3.low
    replace hst3 := Lib.hid hst3
    by_cases hl : 65536 < txt.length
    · replace hres := Lib.hid (hres.out.trans (if_pos hl))
      have hli : (65536 : Int) < txt.length := by omega
      replace hL := Lib.hid hL
      go_wp2_with (first | (go_at_call 58; (with_reducible refine (hL.out).mono ?_); rintro e w' ⟨rfl, rfl⟩))
      all_goals
        go_ret2
        refine ⟨?_, hB3.out⟩
        rw [hres.out]
        rfl
    · replace hres := Lib.hid (hres.out.trans (if_neg hl))
      have hli : ¬ (65536 : Int) < txt.length := by omega
      have hS1 := Lib.hid (wr_string b b txt x3 hT hne)
      replace hL := Lib.hid hL
      replace hT := Lib.hid hT
      have hRl := Lib.hid (hR.out (by omega))
      go_wp2_with (first | (go_at_call 58; (with_reducible refine (hL.out).mono ?_); rintro e w' ⟨rfl, rfl⟩) | (go_at_call 59; (with_reducible refine (hS1.out).mono ?_); rintro e x4 ⟨rfl, hT4, b4⟩; have hB4 := Lib.hid (hB3.out.trans (b4.mono hbB))))
      by_cases her : er = 0
      · have hei : (er : Int) = 0 := by omega
        replace hres := Lib.hid (hres.out.trans (if_pos her))
        clear her
        go_wp2_with (first | (go_at_call 21; (with_reducible refine (hRl.out _ hB4.out).mono ?_); rintro e x5 ⟨b5, kd', n', a', z', tx', p', m', c', rfl⟩; have hB5 := Lib.hid (hB4.out.trans (b5.mono hB4.out.size)); have hS2 := Lib.hid (fun W (h : Below x5.heap.size x5 W) => wr_string b b txt W ((hT4.low b5).low h) hne)) | (go_at_call 59; (with_reducible refine (hS2.out _ ((Below.refl _ _).alloc (Nat.le_refl _) _)).mono ?_); rintro e x6 ⟨rfl, hT6, b6⟩))
        all_goals
          go_ret2
          refine ⟨?_, (hB5.out.alloc hB5.out.size _).trans (b6.mono hbB)⟩
          rw [hres.out]
          rfl
      · have hei : ¬ (er : Int) = 0 := by omega
        replace hres := Lib.hid (hres.out.trans (if_neg her))
        go_wp2_with (first | (go_at_call 21; (with_reducible refine (hRl.out _ hB4.out).mono ?_); rintro e x5 ⟨b5, kd', n', a', z', tx', p', m', c', rfl⟩; have hB5 := Lib.hid (hB4.out.trans (b5.mono hB4.out.size))))
        all_goals
          go_ret2
          refine ⟨?_, hB5.out.alloc hB5.out.size _⟩
          rw [hres.out]
          rfl
theorem pScheme_any (t : Syn) (hM : Mod t) (q : Option Addr) (d : Nat) (w : World) (hE : PEnv w) (ht : TabW w) (hks : KidR w t.kids (.slice q t.kids.length d)) (hbig : okP 1 t = true → (wrN 1 t).length ≤ 140737488355328 ∧ wrN 1 t ≠ []) :
    Calls Tryz.prog 13 #[nodeV t q d] w (TPost w (printO (okP 1 t) (wrN 1 t) (parseO (wrN 1 t) (rdO .scheme)))) := by
  have hT := fun W (hb : Below w.heap.size w W) => ptext_Scheme t hM q d W (hE.below hb) (tab_low ht hb) (hks.low hb) hbig
  generalize printO (okP 1 t) (wrN 1 t) (parseO (wrN 1 t) (rdO .scheme)) = res at *
  obtain ⟨kd, tx, n, a, ks⟩ := t
  replace hT : ∀ W (hb : Below w.heap.size w W), Calls Tryz.prog 31 #[.int .i64 1, (Value.agg #[.int .i64 kd, .string ⟨List.toArray tx⟩, .int .i64 n, .int .i64 a, .slice q ks.length d]), .func (.func 21) #[] #[]] W (TPost W res) := hT
  show Calls Tryz.prog 13 #[(Value.agg #[.int .i64 kd, .string ⟨List.toArray tx⟩, .int .i64 n, .int .i64 a, .slice q ks.length d])] w (TPost w res)
  clear hbig hks hM hE ht
  generalize ks.length = m at *
  replace hT := Lib.hid hT
  have hB := boxed_below w kd tx n a q m d
  have hC := boxed_new w kd tx n a q m d
  unfold boxed at hB hC
  go_enter Tryz.func13, Tryz.ntmps13
  go_upto_region 1 with (fail)
  generalize World.alloc w _ = w1 at hB hC ⊢
  obtain ⟨c0, c1, c2, c3, c4⟩ := five hC
  replace hB := Lib.hid hB
  replace hC := Lib.hid hC
  go_wp2_with (first | (go_at_call 31; (with_reducible refine (hT.out _ hB.out).mono ?_); rintro e x2 ⟨rfl, b2⟩))
  all_goals
    go_ret2
    exact ⟨rfl, hB.out.trans (b2.mono hB.out.size)⟩
theorem ptext_Formula (t : Syn) (hM : Mod t) (q : Option Addr) (d : Nat) (w : World) (hE : PEnv w) (ht : TabW w) (hks : KidR w t.kids (.slice q t.kids.length d)) (hbig : okP 2 t = true → (wrN 2 t).length ≤ 140737488355328 ∧ wrN 2 t ≠ []) :
    Calls Tryz.prog 31 #[.int .i64 2, nodeV t q d, .func (.func 22) #[] #[]] w (TPost w (printO (okP 2 t) (wrN 2 t) (parseO (wrN 2 t) (rdO .formula)))) := by
  have hV := fun W (hb : Below w.heap.size w W) => (show Calls Tryz.prog 56 #[.int .i64 2, nodeV t q d] W (VPost W (okP 2 t)) from valid_post (k := 2) (by omega) hM hE.signs hE.space hks W hb)
  have hN : okP 2 t = true → ∀ B b l W w1, WSt w w1 B b l W → l.length + (wrN 2 t).length ≤ 140737488355328 → Calls Tryz.prog 57 #[.pointer (some ⟨b, 0, none⟩), .int .i64 2, nodeV t q d] W fun e w' => e = .returned (.tuple #[]) ∧ WSt w w1 B b (l ++ wrN 2 t) w' :=
    fun ho B b l W w1 h hl => tree_node ht B b t hM 2 (by omega) (Or.inl ho) q d hks w1 l W h hl
  have hR : (wrN 2 t).length ≤ 65536 → ∀ W, Below w.heap.size w W → Calls Tryz.prog 22 #[.string ⟨(wrN 2 t).toArray⟩] W fun e w' => Below W.heap.size W w' ∧ ∃ (kd n a z : Int) (tx : List UInt8) (p : Option Addr) (m c : Nat), e = .returned (.tuple #[(Value.agg #[.int .i64 kd, .string ⟨List.toArray tx⟩, .int .i64 n, .int .i64 a, .slice p m c]), .int .i64 z, .int .i64 (errO (parseO (wrN 2 t) (rdO .formula)))]) :=
    fun hl W hb => (fullFormula_any _ W (by omega) (hE.below hb)).mono fun e w' h => pres_norm h
  generalize parseO (wrN 2 t) (rdO .formula) = o at *
  generalize wrN 2 t = txt at *
  generalize okP 2 t = ok at *
  obtain ⟨res, hres⟩ : ∃ r, Hid (r = printO ok txt o) := ⟨_, Lib.hid rfl⟩
  rw [← hres.out]
  obtain ⟨er, her⟩ : ∃ r, Hid (r = errO o) := ⟨_, Lib.hid rfl⟩
  rw [← her.out] at hR
  replace hres := Lib.hid (hres.out.trans (show _ = (if ok then if 65536 < txt.length then (([] : List UInt8), 13) else if errO o = 0 then (txt, 0) else ([], errO o) else ([], 3)) from rfl))
  rw [← her.out] at hres
  clear her
  obtain ⟨kd, tx, n, a, ks⟩ := t
  replace hV : ∀ W (hb : Below w.heap.size w W), Calls Tryz.prog 56 #[.int .i64 2, (Value.agg #[.int .i64 kd, .string ⟨List.toArray tx⟩, .int .i64 n, .int .i64 a, .slice q ks.length d])] W (VPost W ok) := hV
  replace hN : ok = true → ∀ B b l W w1, WSt w w1 B b l W → l.length + txt.length ≤ 140737488355328 → Calls Tryz.prog 57 #[.pointer (some ⟨b, 0, none⟩), .int .i64 2, (Value.agg #[.int .i64 kd, .string ⟨List.toArray tx⟩, .int .i64 n, .int .i64 a, .slice q ks.length d])] W fun e w' => e = .returned (.tuple #[]) ∧ WSt w w1 B b (l ++ txt) w' := hN
  show Calls Tryz.prog 31 #[.int .i64 2, (Value.agg #[.int .i64 kd, .string ⟨List.toArray tx⟩, .int .i64 n, .int .i64 a, .slice q ks.length d]), .func (.func 22) #[] #[]] w (TPost w res)
  clear hks hM hE ht
  generalize ks.length = m at *
  replace hV := Lib.hid hV
  replace hN := Lib.hid hN
  replace hR := Lib.hid hR
  replace hbig := Lib.hid hbig
  have hB := boxed_below w kd tx n a q m d
  have hC := five (boxed_new w kd tx n a q m d)
  have hsz : (boxed w kd tx n a q m d).heap.size = w.heap.size + 1 := World.size_alloc ..
  have hw := wr_new (boxed w kd tx n a q m d)
  have hB2 : Below w.heap.size w ((boxed w kd tx n a q m d).alloc zWr) := hB.alloc (by rw [hsz]; omega) _
  have hC2 := five_low hC ((Below.refl _ _).alloc (Nat.le_refl _) zWr)
  rw [hsz] at hw
  clear hB hC hsz
  unfold boxed zWr at hw hB2 hC2
  go_enter Tryz.func31, Tryz.ntmps31
  go_upto_region 11 with (fail)
  generalize World.alloc (World.alloc w _) _ = w1 at hw hB2 hC2 ⊢
  have hBb : w.heap.size ≤ w.heap.size + 1 := Nat.le_succ _
  generalize w.heap.size + 1 = b at hw hBb ⊢
  obtain ⟨c0, c1, c2, c3, c4⟩ := hC2
  replace hw := Lib.hid hw
  replace hB2 := Lib.hid hB2
  cases ok with
  | false =>
    go_wp2_with (first | (go_at_call 56; (with_reducible refine (hV.out _ hB2.out).mono ?_); rintro e x2 ⟨rfl, b2⟩))
    all_goals
      go_ret2
      refine ⟨?_, hB2.out.trans (b2.mono hB2.out.size)⟩
      rw [hres.out]
      rfl
  | true =>
    obtain ⟨hbl, hne⟩ := hbig.out (by first | rfl | trivial)
    replace hres := Lib.hid (hres.out.trans (if_pos rfl))
    go_wp2_with (first | (go_at_call 56; (with_reducible refine (hV.out _ hB2.out).mono ?_); rintro e x2 ⟨rfl, b2⟩; obtain ⟨d0, d1, d2, d3, d4⟩ := five_low ⟨c0, c1, c2, c3, c4⟩ b2))
    have hst := WSt.begin (w0 := w) (wr_low hw.out b2) (hB2.out.trans (b2.mono hB2.out.size)) hBb (Nat.le_of_lt (wr_lt (wr_low hw.out b2)).2)
    have hN2 := hN.out (by first | rfl | trivial) b b [] x2 x2 hst (by simpa using hbl)
    rw [List.nil_append] at hN2
    replace hN2 := Lib.hid hN2
    go_wp2_with (first | (go_at_call 57; (with_reducible refine (hN2.out).mono ?_); rintro e x3 ⟨rfl, hst3⟩))
    have hT := wrtext_of hst3.wr hne
    have hL := wr_len b b txt x3 hT
    have hB3 := Lib.hid hst3.tree
    have hbB := hst3.low
    replace hst3 := Lib.hid hst3
    by_cases hl : 65536 < txt.length
    · replace hres := Lib.hid (hres.out.trans (if_pos hl))
      have hli : (65536 : Int) < txt.length := by omega
      replace hL := Lib.hid hL
      go_wp2_with (first | (go_at_call 58; (with_reducible refine (hL.out).mono ?_); rintro e w' ⟨rfl, rfl⟩))
      all_goals
        go_ret2
        refine ⟨?_, hB3.out⟩
        rw [hres.out]
        rfl
    · replace hres := Lib.hid (hres.out.trans (if_neg hl))
      have hli : ¬ (65536 : Int) < txt.length := by omega
      have hS1 := Lib.hid (wr_string b b txt x3 hT hne)
      replace hL := Lib.hid hL
      replace hT := Lib.hid hT
      have hRl := Lib.hid (hR.out (by omega))
      go_wp2_with (first | (go_at_call 58; (with_reducible refine (hL.out).mono ?_); rintro e w' ⟨rfl, rfl⟩) | (go_at_call 59; (with_reducible refine (hS1.out).mono ?_); rintro e x4 ⟨rfl, hT4, b4⟩; have hB4 := Lib.hid (hB3.out.trans (b4.mono hbB))))
      by_cases her : er = 0
      · have hei : (er : Int) = 0 := by omega
        replace hres := Lib.hid (hres.out.trans (if_pos her))
        clear her
        go_wp2_with (first | (go_at_call 22; (with_reducible refine (hRl.out _ hB4.out).mono ?_); rintro e x5 ⟨b5, kd', n', a', z', tx', p', m', c', rfl⟩; have hB5 := Lib.hid (hB4.out.trans (b5.mono hB4.out.size)); have hS2 := Lib.hid (fun W (h : Below x5.heap.size x5 W) => wr_string b b txt W ((hT4.low b5).low h) hne)) | (go_at_call 59; (with_reducible refine (hS2.out _ ((Below.refl _ _).alloc (Nat.le_refl _) _)).mono ?_); rintro e x6 ⟨rfl, hT6, b6⟩))
        all_goals
          go_ret2
          refine ⟨?_, (hB5.out.alloc hB5.out.size _).trans (b6.mono hbB)⟩
          rw [hres.out]
          rfl
      · have hei : ¬ (er : Int) = 0 := by omega
        replace hres := Lib.hid (hres.out.trans (if_neg her))
        go_wp2_with (first | (go_at_call 22; (with_reducible refine (hRl.out _ hB4.out).mono ?_); rintro e x5 ⟨b5, kd', n', a', z', tx', p', m', c', rfl⟩; have hB5 := Lib.hid (hB4.out.trans (b5.mono hB4.out.size))))
        all_goals
          go_ret2
          refine ⟨?_, hB5.out.alloc hB5.out.size _⟩
          rw [hres.out]
          rfl
theorem pFormula_any (t : Syn) (hM : Mod t) (q : Option Addr) (d : Nat) (w : World) (hE : PEnv w) (ht : TabW w) (hks : KidR w t.kids (.slice q t.kids.length d)) (hbig : okP 2 t = true → (wrN 2 t).length ≤ 140737488355328 ∧ wrN 2 t ≠ []) :
    Calls Tryz.prog 15 #[nodeV t q d] w (TPost w (printO (okP 2 t) (wrN 2 t) (parseO (wrN 2 t) (rdO .formula)))) := by
  have hT := fun W (hb : Below w.heap.size w W) => ptext_Formula t hM q d W (hE.below hb) (tab_low ht hb) (hks.low hb) hbig
  generalize printO (okP 2 t) (wrN 2 t) (parseO (wrN 2 t) (rdO .formula)) = res at *
  obtain ⟨kd, tx, n, a, ks⟩ := t
  replace hT : ∀ W (hb : Below w.heap.size w W), Calls Tryz.prog 31 #[.int .i64 2, (Value.agg #[.int .i64 kd, .string ⟨List.toArray tx⟩, .int .i64 n, .int .i64 a, .slice q ks.length d]), .func (.func 22) #[] #[]] W (TPost W res) := hT
  show Calls Tryz.prog 15 #[(Value.agg #[.int .i64 kd, .string ⟨List.toArray tx⟩, .int .i64 n, .int .i64 a, .slice q ks.length d])] w (TPost w res)
  clear hbig hks hM hE ht
  generalize ks.length = m at *
  replace hT := Lib.hid hT
  have hB := boxed_below w kd tx n a q m d
  have hC := boxed_new w kd tx n a q m d
  unfold boxed at hB hC
  go_enter Tryz.func15, Tryz.ntmps15
  go_upto_region 1 with (fail)
  generalize World.alloc w _ = w1 at hB hC ⊢
  obtain ⟨c0, c1, c2, c3, c4⟩ := five hC
  replace hB := Lib.hid hB
  replace hC := Lib.hid hC
  go_wp2_with (first | (go_at_call 31; (with_reducible refine (hT.out _ hB.out).mono ?_); rintro e x2 ⟨rfl, b2⟩))
  all_goals
    go_ret2
    exact ⟨rfl, hB.out.trans (b2.mono hB.out.size)⟩
end Go.Proofs.YtplbfmcgddnkeaaGreatDoor
end
section
set_option maxHeartbeats 1000000
namespace Go.Proofs.YtplbfmcgddnkeaaGreatDoor
theorem decGo_ne : ∀ (f n : Nat) (l : List UInt8), l ≠ [] → decGo f n l ≠ []
  | 0, n, l, h => by rw [decGo]; exact h
  | f + 1, n, l, h => by
    rw [decGo]
    split
    · simp
    · exact decGo_ne f _ _ (by simp)
theorem dec_ne (n : Nat) : dec n ≠ [] := by
  unfold dec
  rw [decGo]
  split
  · simp
  · exact decGo_ne _ _ _ (by simp)
theorem name_ne {s : List UInt8} (h : nameB s = true) : s ≠ [] := fun e => by subst e; revert h; decide
theorem wrc_ne {t : Syn} (h : okc t = true) : wrc t ≠ [] := by
  rcases t with ⟨kd, tx, n, p, _ | ⟨a, _ | ⟨b, _ | ⟨c, l⟩⟩⟩⟩
  · rw [wrc]
    split
    · exact dec_ne _
    · rename_i hk
      rw [okc] at h
      rcases Bool.or_eq_true _ _ ▸ h with h | h
      · exact absurd h (by rw [isNum_ne hk]; decide)
      · exact name_ne (nm_name h)
  · rw [wrc]; split <;> simp [kNot]
  · rw [wrc]
    split
    · split <;> simp
    · split <;> simp
  · simp [okc] at h
theorem wrs_ne {t : Syn} (h : oks t = true) : wrs t ≠ [] := by
  rcases t with ⟨kd, tx, n, p, _ | ⟨a, _ | ⟨b, _ | ⟨c, l⟩⟩⟩⟩
  · rw [wrs]
    rw [oks] at h
    rcases Bool.or_eq_true _ _ ▸ h with h | h
    · exact name_ne (nm_name h)
    · simp only [Bool.and_eq_true, beq_iff_eq] at h
      rw [h.2]; decide
  · rw [wrs]; simp
  · rw [wrs]; simp
  · simp [oks] at h
theorem wrf_ne {t : Syn} (h : okf t = true) : wrf t ≠ [] := by
  rcases t with ⟨kd, tx, n, p, _ | ⟨a, _ | ⟨b, _ | ⟨c, l⟩⟩⟩⟩
  · rw [wrf]
    rw [okf] at h
    simp only [Bool.and_eq_true, beq_iff_eq] at h
    rw [h.2]; decide
  · rw [wrf]; split
    · simp [kNot]
    · split <;> simp
  · rw [wrf]; split
    · split <;> simp
    · simp
  · simp [okf] at h
theorem wpart_len {k : Int} {x : Syn} (h : partB k x = true) : (wpart x).length ≤ mass x := by
  obtain ⟨q, a, rfl, ha⟩ := part_shape h
  have h1 := wrc_len _ a (Nat.lt_succ_self _) ha
  have e : kid0 (.mk k [] 0 q [a]) = a := rfl
  have hw : (if (Syn.mk k [] 0 q [a]).kind = 2 then kWhere else if (Syn.mk k [] 0 q [a]).kind = 3 then kAllow else kCalm).length ≤ 5 := by
    split
    · decide
    · split <;> decide
  unfold wpart
  rw [e, mass_mk, massL_cons, massL_nil]
  simp only [List.length_cons, List.length_append]
  omega
theorem parts_len : ∀ l : List Syn, (∀ x ∈ l, ∃ k : Int, partB k x = true) → (l.flatMap wpart).length ≤ massL l
  | [], _ => by simp
  | x :: r, h => by
    obtain ⟨k, hk⟩ := h x (List.mem_cons_self ..)
    have h1 := wpart_len hk
    have h2 := parts_len r fun y hy => h y (List.mem_cons_of_mem _ hy)
    rw [List.flatMap_cons, List.length_append, massL_cons]
    omega
theorem wdecl_len {t : Syn} (h : declB t = true) : (wdecl t).length ≤ mass t := by
  obtain ⟨-, h2, h3⟩ := decl_parts h
  have hd : (dec t.num.toNat).length ≤ 7 := dec_len (by omega)
  rcases t with ⟨kd, tx, n, p, ks⟩
  simp only [Syn.kind, Syn.text, Syn.num, Syn.kids] at h2 h3 hd
  rw [mass_mk]
  rcases h3 with ⟨rfl, a, w, b, c, rfl, ha, hw, hb, hc⟩ | ⟨rfl, -, a, rfl, ha⟩ | ⟨rfl, -, a, rfl, ha⟩ | ⟨rfl, a, b, rfl, ha, hb⟩
  · have hp := tsk_parts (a := a) hw hb hc
    have h1 := parts_len (w ++ b :: c) fun x hx => by obtain ⟨k, -, h⟩ := hp x hx; exact ⟨k, h⟩
    have h4 := num_dec ha
    unfold wdecl
    rw [if_pos (by rfl), massL_cons]
    simp only [kid0, Syn.kids, List.headD_cons, List.drop_succ_cons, List.drop_zero, Syn.text, Syn.num, List.length_append, List.length_cons, List.length_nil] at h1 h4 hd ⊢
    omega
  · have h1 := wrs_len _ a (Nat.lt_succ_self _) ha
    unfold wdecl
    rw [if_neg (by simp [Syn.kind]), if_pos (by rfl), massL_cons, massL_nil]
    simp only [kid0, Syn.kids, List.headD_cons, Syn.text, List.length_append, List.length_cons, List.length_nil]
    omega
  · have h1 := wrf_len _ a (Nat.lt_succ_self _) ha
    unfold wdecl
    rw [if_neg (by simp [Syn.kind]), if_neg (by simp [Syn.kind]), if_pos (by rfl), massL_cons, massL_nil]
    simp only [kid0, Syn.kids, List.headD_cons, Syn.text, List.length_append, List.length_cons, List.length_nil]
    omega
  · have h1 := mass_pos a
    have h4 := mass_pos b
    unfold wdecl
    rw [if_neg (by simp [Syn.kind]), if_neg (by simp [Syn.kind]), if_neg (by simp [Syn.kind]), massL_cons, massL_cons, massL_nil]
    simp only [kid0, kid1, Syn.kids, List.headD_cons, List.drop_succ_cons, List.drop_zero, Syn.text, Syn.num, List.length_append, List.length_cons, List.length_nil] at h1 h4 hd ⊢
    omega
theorem decls_len : ∀ l : List Syn, (∀ x ∈ l, declB x = true) → (l.flatMap wdecl).length ≤ massL l
  | [], _ => by simp
  | x :: r, h => by
    have h1 := wdecl_len (h x (List.mem_cons_self ..))
    have h2 := decls_len r fun y hy => h y (List.mem_cons_of_mem _ hy)
    rw [List.flatMap_cons, List.length_append, massL_cons]
    omega
theorem wprog_len {t : Syn} (h : progB t = true) : (wprog t).length ≤ mass t := by
  obtain ⟨-, -, h3, h4⟩ := prog_parts h
  have hd : (dec t.num.toNat).length ≤ 7 := dec_len (by omega)
  have h1 := decls_len t.kids h4
  rcases t with ⟨kd, tx, n, p, ks⟩
  rw [mass_mk]
  unfold wprog
  simp only [Syn.kids, Syn.num, List.length_append, List.length_cons, List.length_nil] at h1 hd ⊢
  omega
theorem parse_mass {s : List UInt8} {r : List Tok → Rd} {ok : Syn → Bool} {t : Syn} {j : Nat} (hr : ∀ T, TT (100 + 2 * s.length) T → WR (100 + 2 * s.length) ok (r T)) (hg : ∀ T, Asc s.length T → GR s.length T (r T)) (h : parseO s r = .ok t j) : ok t = true ∧ mass t ≤ (100 + 2 * s.length) * s.length := by
  unfold parseO at h
  split at h
  · cases h
  · rename_i T hT
    obtain ⟨hA, hL⟩ := scan_TT hT
    have h1 := whole_w (T := T) (hr T hA)
    have h2 := whole_g (scan_asc hT) (hg T (scan_asc hT)) (scanned hT).pos
    rw [h] at h1 h2
    have h1 : ok t = true ∧ mass t + (100 + 2 * s.length) * 0 ≤ (100 + 2 * s.length) * j := h1
    have h2 : 0 ≤ j ∧ j < T.length ∧ _ := h2
    have h3 : (100 + 2 * s.length) * j ≤ (100 + 2 * s.length) * s.length := Nat.mul_le_mul_left _ (by omega)
    exact ⟨h1.1, by omega⟩
theorem massL_len : ∀ l : List Syn, 70 * l.length ≤ massL l
  | [] => by simp
  | x :: r => by
    have h1 := massL_len r
    have h2 := mass_pos x
    rw [massL_cons, List.length_cons]; omega
theorem massL_mem : ∀ {l : List Syn} {x : Syn}, x ∈ l → mass x ≤ massL l
  | [], x, h => (List.not_mem_nil h).elim
  | y :: r, x, h => by
    rw [massL_cons]
    rcases List.mem_cons.1 h with rfl | h
    · omega
    · have := massL_mem h; omega
theorem mod_of_mass : ∀ (m : Nat) (t : Syn), SizeOf.sizeOf t < m → mass t ≤ 2000000 → Mod t := by
  intro m
  induction m with
  | zero => intro t h; omega
  | succ m ih =>
    intro t hm ht
    rcases t with ⟨kd, tx, n, p, ks⟩
    rw [mass_mk] at ht
    have h1 := massL_len ks
    refine .mk (by omega) (by omega) fun z hz => ih z ?_ ?_
    · have h2 := List.sizeOf_lt_of_mem hz
      simp only [Syn.mk.sizeOf_spec] at hm
      omega
    · have := massL_mem hz; omega
end Go.Proofs.YtplbfmcgddnkeaaGreatDoor
end
section
set_option maxHeartbeats 1000000
namespace Go.Proofs.YtplbfmcgddnkeaaGreatDoor
open Go.RowKit
theorem kids_cap {S : Nat → Prop} {w : World} {l : List Syn} {p : Option Addr} {n c : Nat} (h : KidsAt S w l (.slice p n c)) : l.length ≤ c := by
  cases h with
  | none => exact Nat.zero_le _
  | some _ _ _ hc => exact hc
theorem KidR.of_kids {S : Nat → Prop} {w : World} : ∀ (m : Nat) {l : List Syn} {v : Value}, SizeOf.sizeOf l < m → KidsAt S w l v → KidR w l v := by
  intro m
  induction m with
  | zero => intro l v h; omega
  | succ m ih =>
    intro l v hm h
    obtain ⟨p, c, rfl, hf⟩ := kids_form h
    have h0' := h
    by_cases h0 : l.length = 0
    · have : l = [] := List.eq_nil_of_length_eq_zero h0
      subst this
      exact .nil
    · obtain ⟨g, _, _, _, _, _, _, rfl, -⟩ := hf 0 (by omega)
      have key : ∀ i, ∃ u, ∀ (hi : i < l.length), (w.cell? ⟨g, 0 + i * 5, none⟩ = some (.int .i64 l[i].kind) ∧ w.cell? ⟨g, 0 + i * 5 + 1, none⟩ = some (.string ⟨l[i].text.toArray⟩) ∧
          w.cell? ⟨g, 0 + i * 5 + 2, none⟩ = some (.int .i64 l[i].num) ∧ w.cell? ⟨g, 0 + i * 5 + 3, none⟩ = some (.int .i64 l[i].pos) ∧ w.cell? ⟨g, 0 + i * 5 + 4, none⟩ = some u) ∧ KidR w l[i].kids u := by
        intro i
        by_cases hi : i < l.length
        · obtain ⟨g', kd, tx, n, a, kids, u, e0, e, hk, c0, c1, c2, c3, c4⟩ := hf i hi
          have e0 : g' = g := by injection e0 with e0; injection e0 with e0; exact e0.symm
          subst e0
          have hsz : SizeOf.sizeOf kids < m := by
            have h1 := List.sizeOf_lt_of_mem (List.getElem_mem hi)
            rw [e] at h1
            simp only [Syn.mk.sizeOf_spec] at h1
            omega
          refine ⟨u, fun _ => ?_⟩
          rw [e]
          simp only [Nat.zero_add]
          exact ⟨⟨c0, c1, c2, c3, c4⟩, ih hsz hk⟩
        · exact ⟨.slice none 0 0, fun h => absurd h hi⟩
      obtain ⟨u, hu⟩ := Classical.axiomOfChoice key
      exact .row (u := u) (fun i hi => (hu i hi).1) (fun i hi => (hu i hi).2) (kids_cap h0')
end Go.Proofs.YtplbfmcgddnkeaaGreatDoor
end
