/- Walks of functions, and plain facts. -/
import Derived.Deep.Cut
import Derived.Outline
import Derived.Test.YtplbfmcgddnkeaaGreatDoorC08
import Derived.Test.YtplbfmcgddnkeaaGreatDoorC07
import Derived.Test.YtplbfmcgddnkeaaGreatDoorC06
set_option linter.unusedVariables false
set_option linter.unusedSimpArgs false
set_option maxHeartbeats 20000000
set_option maxRecDepth 100000
namespace Go.Proofs.YtplbfmcgddnkeaaGreatDoor
open Go.RowKit
theorem KidsAt.shape {S : Nat → Prop} {w : World} {l : List Syn} {v : Value} (h : KidsAt S w l v) : ∃ p n c, v = .slice p n c := by
 cases h with
 | none => exact ⟨_, _, _, rfl⟩
 | some _ _ _ => exact ⟨_, _, _, rfl⟩
theorem Qep (w : World) (a : Array Value) (A : TypeId) (p : Addr) (v : Value) (hp : p.block < w.heap.size) : ((w.setCell p v).alloc (.cells a A)).heap[w.heap.size]? = some (.cells a A (0, 0)) := by
 have h := heap_alloc_new (w.setCell p v) (.cells a A)
 have e : (w.setCell p v).heap.size = w.heap.size := by simp [World.setCell]
 rw [e] at h
 exact h
theorem Qes {pb q tb c lv i' : Nat} {T : List Tok} {w w3 : World} {J : Nat → Syn → World → Prop} {k n a : Int} {tx : List UInt8} {kids : List Syn} {kv : Value} (hJ : Stable pb q J)
  (o4 : Only2 pb q w w3) (p3 : PS pb tb c T i' lv w3) (hk : KidsAt (Fr (w.heap.size + 1)) w3 kids kv) (hj : J (w.heap.size + 1) (.mk k tx n a kids) w3) (hp : pb < w.heap.size) (ht : tb < w.heap.size) (hq : q < w.heap.size) (v0 v1 v2 v3 v4 : Value) :
  GOut pb q tb c lv T w J (.ok (.mk k tx n a kids) i') (.returned (.agg #[.int .i64 k, .string ⟨tx.toArray⟩, .int .i64 n, .int .i64 a, kv]))
   (((((w3.setCell ⟨w.heap.size, 0, none⟩ v0).setCell ⟨w.heap.size, 1, none⟩ v1).setCell ⟨w.heap.size, 2, none⟩ v2).setCell ⟨w.heap.size, 3, none⟩ v3).setCell ⟨w.heap.size, 4, none⟩ v4) := by
 have hkp : Keep (Fr (w.heap.size + 1)) w3 (((((w3.setCell ⟨w.heap.size, 0, none⟩ v0).setCell ⟨w.heap.size, 1, none⟩ v1).setCell ⟨w.heap.size, 2, none⟩ v2).setCell ⟨w.heap.size, 3, none⟩ v3).setCell ⟨w.heap.size, 4, none⟩ v4) :=
  (((((Keep.refl _ _).set (.inl (Nat.lt_succ_self _))).set (.inl (Nat.lt_succ_self _))).set (.inl (Nat.lt_succ_self _))).set (.inl (Nat.lt_succ_self _))).set (.inl (Nat.lt_succ_self _))
 refine ⟨?_, ⟨_, rfl, ⟨_, rfl, hk.keep hkp fun k (hk : _ ≤ k) => Nat.le_of_succ_le hk⟩, hJ _ _ _ _ _ hj (Nat.le_succ _) hkp fun hq' => ?_⟩, ?_⟩
 ·exact Only2.own (Only2.own (Only2.own (Only2.own (Only2.own o4 (Nat.le_refl _) _) (Nat.le_refl _) _) (Nat.le_refl _) _) (Nat.le_refl _) _) (Nat.le_refl _) _
 ·have e : ∀ (W : World) o v, (W.setCell ⟨w.heap.size, o, none⟩ v).heap[q]? = W.heap[q]? := fun W o v => Below.heap_setCell _ _ _ _ (by show q ≠ w.heap.size; omega)
  rw [e, e, e, e, e]
 ·exact PS.own (PS.own (PS.own (PS.own (PS.own p3 hp ht) hp ht) hp ht) hp ht) hp ht
theorem Qsq (pb q tb c i lv : Nat) (T : List Tok) (w : World) (J : Nat → Syn → World → Prop) (fn : Nat) (first cap : Array Value) (o o' : Out Syn) (ho' : o' = if 128 < lv + 1 then fail T 12 i else o)
  (hc : ∀ args w, (callFunc fn args).run Tryz.prog w = .ok (.enter fn args) w) (h : PS pb tb c T i lv w) (hq : q < w.heap.size) (hl : lv ≤ 200)
  (hJ : Stable pb q J)
  (hr : 128 < lv + 1 ∨ ∀ W, PS pb tb c T i (lv + 1) W → Only pb w W → Calls Tryz.prog fn (first ++ cap) W (GOut pb q tb c (lv + 1) T W J o)) :
  Calls Tryz.prog 76 #[.pointer (some ⟨pb, 0, none⟩), .func (.func fn) first cap] w (GOut pb q tb c lv T w J o') := by
 obtain ⟨c0, c1, c2⟩ := h.cells
 have f2 := h.frozen 2
 have hpos := h.pos
 have htb := h.toks.1
 have hlt := h.lt
 have hF : Hid (∀ W, PS pb tb c T i (lv + 1) W → Calls Tryz.prog 65 #[.pointer (some ⟨pb, 0, none⟩), .int .i64 12] W fun r w' => r = .panicked (Q39 (tk T i).pos 12) ∧ Only pb W w') := fun W h => Q6e pb tb c i (lv + 1) T W 12 h
 have hp1 : ∀ A, PS pb tb c T i (lv + 1) ((w.setCell ⟨pb, 2, none⟩ (.int .i64 ((lv : Int) + 1))).alloc A) := fun A => (h.setP (by simp) hlt (by omega)).alloc A
 have ho1 : ∀ A v, Only pb w ((w.setCell ⟨pb, 2, none⟩ v).alloc A) := fun A v => (Only.set _ _ _ _).trans (Only.alloc _ _ _)
 replace hp1 := qh hp1
 replace ho1 := qh ho1
 replace h := qh h
 by_cases hdeep : 128 < lv + 1
 ·have hb : decide ((128 : Int) < (lv : Int) + 1) = true := by rw [decide_eq_true_eq]; omega
  have hres : Hid (o' = .err (tk T i).pos 12) := show _ = _ by rw [ho', if_pos hdeep]; rfl
  clear ho'
  clear hr
  replace hdeep := qh hdeep
  go_enter Tryz.func76, Tryz.ntmps76
  go_wp2_with fail
  (with_reducible refine (hF.out _ (hp1.out _)).mono ?_); rintro e w2 ⟨rfl, o2⟩
  exact ⟨rfl, ((ho1.out _ _).trans o2).two q, by rw [hres.out]⟩
 ·have hb : decide ((128 : Int) < (lv : Int) + 1) = false := by rw [decide_eq_false_iff_not]; omega
  have hres : Hid (o' = o) := show _ = _ by rw [ho', if_neg hdeep]
  clear ho'
  replace hr := qh (hr.resolve_left hdeep)
  replace hdeep := qh hdeep
  go_enter Tryz.func76, Tryz.ntmps76
  go_wp2_with fail
  have hB1 := Qep w #[.int .i64 0, .string ⟨#[]⟩, .int .i64 0, .int .i64 0, .slice none 0 0] 24 ⟨pb, 2, none⟩ (.int .i64 ((lv : Int) + 1)) hpos
  have hs1 : ((w.setCell ⟨pb, 2, none⟩ (.int .i64 ((lv : Int) + 1))).alloc (.cells #[.int .i64 0, .string ⟨#[]⟩, .int .i64 0, .int .i64 0, .slice none 0 0] 24)).heap.size = w.heap.size + 1 := by simp [World.setCell]
  replace hB1 := qh hB1
  replace hs1 := qh hs1
  have hcall := hr.out _ (hp1.out (.cells #[.int .i64 0, .string ⟨#[]⟩, .int .i64 0, .int .i64 0, .slice none 0 0] 24)) (ho1.out _ _)
  replace hcall := qh hcall
  cases o with
  | none =>
   (with_reducible refine (hcall.out).mono ?_); rintro e w2 ⟨_, hf⟩
   exact hf.elim
  | err p er =>
   (with_reducible refine (hcall.out).mono ?_); rintro e w2 ⟨o2, rfl⟩
   exact ⟨rfl, ((ho1.out _ _).two q).trans o2, by rw [hres.out]⟩
  | ok t i' =>
   (with_reducible refine (hcall.out).mono ?_); rintro e w2 ⟨o2, ⟨v, rfl, ⟨kv, rfl, hk⟩, hj⟩, p2⟩
   cases t with
   | mk k tx n a kids =>
   simp only [Syn.kind, Syn.text, Syn.num, Syn.pos, Syn.kids] at hk ⊢
   obtain ⟨ka, kn, kc, rfl⟩ := hk.shape
   rw [hs1.out] at hk hj
   have hB2 := (o2.block w.heap.size (by rw [hs1.out]; omega) (by omega) (by omega)).trans hB1.out
   have hz2 := o2.size
   rw [hs1.out] at hz2
   obtain ⟨⟨r0, r1, r2, r3, r4⟩, hfz⟩ := own5 hB2
   obtain ⟨d0, d1, d2⟩ := p2.cells
   have hfp := p2.frozen 2
   have hp2 := p2.pos
   rw [show ((lv + 1 : Nat) : Int) = (lv : Int) + 1 from by omega] at d2
   have hsub : (lv : Int) + 1 - 1 = lv := by omega
   have hl2 : w.heap.size < w2.heap.size := by omega
   have hne1 : w.heap.size ≠ pb := by omega
   have hne2 : pb ≠ w.heap.size := by omega
   have hne3 : w.heap.size ≠ w2.heap.size := by omega
   replace hk := qh hk
   replace hj := qh hj
   replace p2 := qh p2
   replace hB2 := qh hB2
   replace o2 := qh (((ho1.out _ _).two q).trans o2)
   clear hcall hr hp1 ho1 hF
   go_upto_region 6 with (fail)
   have hkeep : Keep (Fr (w.heap.size + 1)) w2 ((w2.setCell ⟨pb, 2, none⟩ (.int .i64 lv)).alloc (.cells #[.int .i64 k, .string ⟨tx.toArray⟩, .int .i64 n, .int .i64 a, .slice ka kn kc] 24)) :=
    ((Keep.refl _ _).set (.inl (by omega))).trans (Keep.alloc _ _ _) (by simp [World.setCell])
   have p3 : PS pb tb c T i' lv ((w2.setCell ⟨pb, 2, none⟩ (.int .i64 lv)).alloc (.cells #[.int .i64 k, .string ⟨tx.toArray⟩, .int .i64 n, .int .i64 a, .slice ka kn kc] 24)) := (p2.out.setP (by simp) p2.out.lt (by omega)).alloc _
   have o3 : Only pb w2 ((w2.setCell ⟨pb, 2, none⟩ (.int .i64 lv)).alloc (.cells #[.int .i64 k, .string ⟨tx.toArray⟩, .int .i64 n, .int .i64 a, .slice ka kn kc] 24)) := (Only.set _ _ _ _).trans (Only.alloc _ _ _)
   have hL3 := Qep w2 #[.int .i64 k, .string ⟨tx.toArray⟩, .int .i64 n, .int .i64 a, .slice ka kn kc] 24 ⟨pb, 2, none⟩ (.int .i64 lv) hp2
   have hB3 := o3.keep hB2.out (by omega)
   have o4 := o2.out.trans (o3.two q)
   have hk3 := hk.out.keep hkeep fun _ h => h
   have hj3 := hJ _ _ _ _ _ hj.out (Nat.le_refl _) hkeep (fun hq' => o3.block q (by omega) hq')
   generalize ((w2.setCell ⟨pb, 2, none⟩ (.int .i64 lv)).alloc (.cells #[.int .i64 k, .string ⟨tx.toArray⟩, .int .i64 n, .int .i64 a, .slice ka kn kc] 24)) = w3 at *
   clear r0 r1 r2 r3 r4 hfz d0 d1 d2 hfp hk hj p2 hB2 o2 hkeep o3
   generalize w2.heap.size = L at *
   obtain ⟨⟨r0, r1, r2, r3, r4⟩, hfz⟩ := own5 hB3
   obtain ⟨⟨l0, l1, l2, l3, l4⟩, _⟩ := own5 hL3
   have hsz3 : w.heap.size < w3.heap.size := (Array.getElem?_eq_some_iff.1 hB3).1
   replace hB3 := qh hB3
   replace hL3 := qh hL3
   replace p3 := qh p3
   replace o4 := qh o4
   replace hk3 := qh hk3
   replace hj3 := qh hj3
   go_wp2_with fail
   refine bodyPost_ret (v := .agg #[.int .i64 k, .string ⟨tx.toArray⟩, .int .i64 n, .int .i64 a, .slice ka kn kc]) (by simp [results, Tryz.results76, go_sem, r0, r1, r2, r3, r4]) rfl ?_
   rw [hres.out]
   exact Qes hJ o4.out p3.out hk3.out hj3.out (by omega) (by omega) (by omega) _ _ _ _ _
def Q5m (pb q tb c lv : Nat) (T : List Tok) (w : World) (J : Nat → Syn → World → Prop) (fn : Nat) (args : Array Value) (r : Nat → Out Syn) : Prop :=
 ∀ W i, PS pb tb c T i lv W → Only pb w W → r i ≠ .none → Calls Tryz.prog fn args W (GOut pb q tb c lv T W J (r i))
theorem Q5m.of {pb q tb c lv : Nat} {T : List Tok} {w w' : World} {J : Nat → Syn → World → Prop} {fn : Nat} {args : Array Value} {r : Nat → Out Syn} (h : Q5m pb q tb c lv T w J fn args r) (ho : Only pb w w') : Q5m pb q tb c lv T w' J fn args r :=
 fun W i hp hw => h W i hp (ho.trans hw)
theorem Q7c (pb q tb c i lv : Nat) (T : List Tok) (w : World) (J : Nat → Syn → World → Prop) (fn : Nat) (first cap : Array Value) (r : Rd)
  (hc : ∀ args w, (callFunc fn args).run Tryz.prog w = .ok (.enter fn args) w) (h : PS pb tb c T i lv w) (hq : q < w.heap.size) (hl : lv ≤ 200) (hJ : Stable pb q J)
  (hne : within T r lv i ≠ .none) (hr : lv < 128 → Q5m pb q tb c (lv + 1) T w J fn (first ++ cap) (r (lv + 1))) :
  Calls Tryz.prog 76 #[.pointer (some ⟨pb, 0, none⟩), .func (.func fn) first cap] w (GOut pb q tb c lv T w J (within T r lv i)) :=
 Qsq pb q tb c i lv T w J fn first cap (r (lv + 1) i) _ rfl hc h hq hl hJ (by
  by_cases hd : 128 < lv + 1
  ·exact .inl hd
  ·exact .inr fun W hp hw => hr (by omega) W i hp hw fun e => hne (by unfold within; rw [if_neg hd]; exact e))
theorem Only2.keepB {p q : Nat} {w w' : World} (h : Only2 p q w w') {B : Nat} {o : Obj} (hB : w.heap[B]? = some o) (hp : B ≠ p) (hq : B ≠ q) : w'.heap[B]? = some o :=
 (h.block B (Array.getElem?_eq_some_iff.1 hB).1 hp hq).trans hB
theorem Q7b (pb q tb c i lv : Nat) (T : List Tok) (w : World) (J : Nat → Syn → World → Prop) (fn : Nat) (first cap : Array Value) (r : Rd)
  (hc : ∀ args w, (callFunc fn args).run Tryz.prog w = .ok (.enter fn args) w) (h : PS pb tb c T i lv w) (hq : q < w.heap.size) (hl : lv ≤ 200) (hJ : Stable pb q J)
  (hne : parens T r lv i ≠ .none) (hr : lv < 128 → Q5m pb q tb c (lv + 1) T w J fn (first ++ cap) (r (lv + 1))) :
  Calls Tryz.prog 190 #[.pointer (some ⟨pb, 0, none⟩), .func (.func fn) first cap] w (GOut pb q tb c lv T w J (parens T r lv i)) := by
 have hpos := h.pos
 have htb := h.toks.1
 have hN1 := fun W (h : PS pb tb c T i lv W) => Qb6 pb tb c i lv T W [40] h
 have hN2 := fun i W (h : PS pb tb c T i lv W) => Qb6 pb tb c i lv T W [41] h
 have hW := qh (fun i W (hp : PS pb tb c T i lv W) (hw : Only pb w W) hn => Q7c pb q tb c i lv T W J fn first cap r hc hp (Nat.lt_of_lt_of_le hq hw.size) hl hJ hn (fun hd => (hr hd).of hw))
 have h1 := qh (h.alloc (.cells #[.int .i64 0, .string ⟨#[]⟩, .int .i64 0, .int .i64 0, .slice none 0 0] 24))
 have o1 := qh (Only.alloc pb w (.cells #[.int .i64 0, .string ⟨#[]⟩, .int .i64 0, .int .i64 0, .slice none 0 0] 24))
 have hB0 := qh (heap_alloc_new w (.cells #[.int .i64 0, .string ⟨#[]⟩, .int .i64 0, .int .i64 0, .slice none 0 0] 24))
 have hs0 := qh (World.size_alloc w (.cells #[.int .i64 0, .string ⟨#[]⟩, .int .i64 0, .int .i64 0, .slice none 0 0] 24))
 have hres : parens T r lv i = (if isW T [[40]] i then .ok (tk T i) (nx T i) else fail T 4 i : Out Tok).bind fun _ i => (within T r lv i).bind fun x i => (need T [41] i).bind fun _ i => .ok x i := rfl
 clear hr
 replace h := qh h
 replace hres := qh hres
 cases hb : isW T [[40]] i
 ·rw [hb] at hN1
  replace hN1 := qh hN1
  have hres : Hid (parens T r lv i = .err (tk T i).pos 4) := show _ = _ by rw [hres.out, hb]; rfl
  clear hb
  go_enter Tryz.func190, Tryz.ntmps190
  go_wp2_with fail
  (with_reducible refine (hN1.out _ h1.out).mono ?_); rintro e w1 ⟨o2, rfl⟩
  exact ⟨rfl, (o1.out.trans o2).two q, by rw [hres.out]⟩
 ·rw [hb] at hN1
  replace hN1 := qh hN1
  have hres : Hid (parens T r lv i = (within T r lv (nx T i)).bind fun x i => (need T [41] i).bind fun _ i => .ok x i) := show _ = _ by rw [hres.out, hb]; rfl
  clear hb
  go_enter Tryz.func190, Tryz.ntmps190
  go_wp2_with fail
  (with_reducible refine (hN1.out _ h1.out).mono ?_); rintro e w1 ⟨o2, rfl, p2⟩
  have hB1 := o2.keep hB0.out (by omega)
  have hz1 := o2.size
  rw [hs0.out] at hz1
  replace hB1 := qh hB1
  replace p2 := qh p2
  replace o2 := qh (o1.out.trans o2)
  go_wp2_with fail
  have hcall := hW.out _ _ p2.out o2.out fun hn => hne (by rw [hres.out, hn]; rfl)
  clear hne
  generalize within T r lv (nx T i) = o at hcall hres
  replace hcall := qh hcall
  cases o with
  | none =>
   (with_reducible refine (hcall.out).mono ?_); rintro e w2 ⟨_, hf⟩
   exact hf.elim
  | err p er =>
   (with_reducible refine (hcall.out).mono ?_); rintro e w2 ⟨o3, rfl⟩
   exact ⟨rfl, (o2.out.two q).trans o3, by rw [hres.out]; rfl⟩
  | ok t j =>
   (with_reducible refine (hcall.out).mono ?_); rintro e w2 ⟨o3, ⟨v, rfl, ⟨kv, rfl, hk⟩, hj⟩, p3⟩
   cases t with
   | mk k tx n a kids =>
   simp only [Syn.kind, Syn.text, Syn.num, Syn.pos, Syn.kids] at hk ⊢
   obtain ⟨ka, kn, kc, rfl⟩ := hk.shape
   have hB2 := qh (o3.keepB hB1.out (by omega) (by omega))
   have hz2 := o3.size
   have hbl := qh (heap_alloc_new w2 (.cells #[.int .i64 k, .string ⟨tx.toArray⟩, .int .i64 n, .int .i64 a, .slice ka kn kc] 24))
   have hp3 := qh (p3.alloc (.cells #[.int .i64 k, .string ⟨tx.toArray⟩, .int .i64 n, .int .i64 a, .slice ka kn kc] 24))
   have hs3 := qh (World.size_alloc w2 (.cells #[.int .i64 k, .string ⟨tx.toArray⟩, .int .i64 n, .int .i64 a, .slice ka kn kc] 24))
   have ho3 := qh (Only.alloc pb w2 (.cells #[.int .i64 k, .string ⟨tx.toArray⟩, .int .i64 n, .int .i64 a, .slice ka kn kc] 24))
   have o4 := qh ((o2.out.two q).trans o3)
   replace hk := qh hk
   replace hj := qh hj
   replace p3 := qh p3
   clear o3
   have hN := hN2 j
   cases hb : isW T [[41]] j
   ·rw [hb] at hN
    replace hN := qh hN
    have hres : Hid (parens T r lv i = .err (tk T j).pos 4) := show _ = _ by rw [hres.out]; show (need T [41] j).bind _ = _; unfold need; rw [hb]; rfl
    clear hb
    go_wp2_with fail
    (with_reducible refine (hN.out _ hp3.out).mono ?_); rintro e w3 ⟨o5, rfl⟩
    exact ⟨rfl, o4.out.trans ((ho3.out.trans o5).two q), by rw [hres.out]⟩
   ·rw [hb] at hN
    replace hN := qh hN
    have hres : Hid (parens T r lv i = .ok (.mk k tx n a kids) (nx T j)) := show _ = _ by rw [hres.out]; show (need T [41] j).bind _ = _; unfold need; rw [hb]; rfl
    clear hb
    go_wp2_with fail
    (with_reducible refine (hN.out _ hp3.out).mono ?_); rintro e w3 ⟨o5, rfl, p5⟩
    have o6 := qh (ho3.out.trans o5)
    have hB3 := o6.out.keep hB2.out (by omega)
    have hL3 := o5.keep hbl.out (by omega)
    have hkp : Keep (Fr w1.heap.size) w2 w3 := fun k hk hs => o6.out.block k hs (by omega)
    have hk3 := qh (hk.out.keep (S' := Fr (w.heap.size + 1)) hkp fun k (hk : _ ≤ k) => show w.heap.size + 1 ≤ k by omega)
    have hj3 := qh (hJ _ _ _ _ _ hj.out (show w.heap.size + 1 ≤ _ by omega) hkp (fun hq' => o6.out.block q (by omega) hq'))
    replace p5 := qh p5
    clear hkp
    have o7 := qh (o4.out.trans (o6.out.two q))
    obtain ⟨⟨r0, r1, r2, r3, r4⟩, hfz⟩ := own5 hB3
    obtain ⟨⟨l0, l1, l2, l3, l4⟩, _⟩ := own5 hL3
    go_wp2_with fail
    refine bodyPost_ret (v := .agg #[.int .i64 k, .string ⟨tx.toArray⟩, .int .i64 n, .int .i64 a, .slice ka kn kc]) (by simp [results, Tryz.results190, go_sem, r0, r1, r2, r3, r4]) rfl ?_
    rw [hres.out]
    exact Qes hJ o7.out p5.out hk3.out hj3.out (by omega) (by omega) (by omega) _ _ _ _ _
theorem Ql4 (k : Nat) (tx : List UInt8) (n a : Int) (q : Option Addr) (m d : Nat) (w0 w : World) (B b : Nat) (l : List UInt8) (hst : WSt w0 w B b l w) (ht : TabW w0) (hn : natB n = true) (hlen : l.length + (dec n.toNat).length ≤ 140737488355328) :
  Calls Tryz.prog 57 #[.pointer (some ⟨b, 0, none⟩), .int .i64 k, (Value.agg #[.int .i64 9, .string ⟨List.toArray tx⟩, .int .i64 n, .int .i64 a, .slice q m d])] w (WPost w0 w B b (l ++ dec n.toNat)) := by
 have hFr := Q2z (Q0o hst.wr).2 k 9 tx n a q m d
 have hst1 := hst.step (Q0s w b k 9 tx n a q m d)
 have hB1 : B ≤ (Q0e w b k 9 tx n a q m d).heap.size := Nat.le_trans hst.ge (Q0s w b k 9 tx n a q m d).size
 unfold Q0e boxed at hFr hst1 hB1
 go_enter Tryz.func57, Tryz.ntmps57
 go_upto_region 3 with (fail)
 generalize World.alloc (World.alloc (World.alloc w _) _) _ = w1 at hFr hst1 hB1 ⊢
 generalize w.heap.size = s at hFr ⊢
 have hR := WRel.refl B b w1
 have g0 := hFr.w hR
 have g1 := hFr.kd hR
 have c0 := hFr.t0 hR
 have c1 := hFr.t1 hR
 have c2 := hFr.t2 hR
 have c3 := hFr.t3 hR
 have c4 := hFr.t4 hR
 have hst2 := qh (hst1.fresh)
 replace hst1 := qh hst1
 have hA := fun W (h : Below w1.heap.size w1 W) => (hst2.out.step h).add [dec n.toNat] (by simp) (by simpa using hlen)
 simp only [List.flatten_cons, List.flatten_nil, List.append_nil, List.map_cons, List.map_nil, List.length_cons, List.length_nil] at hA
 replace hA := qh hA
 have hI := qh (Qh5 (b := b) hn ht hst1.out.tree hB1)
 have fw := fun W (h : WRel B b w1 W) => hFr.w h
 have fk := fun W (h : WRel B b w1 W) => hFr.kd h
 have f0 := fun W (h : WRel B b w1 W) => hFr.t0 h
 have f1 := fun W (h : WRel B b w1 W) => hFr.t1 h
 have f2 := fun W (h : WRel B b w1 W) => hFr.t2 h
 have f4 := fun W (h : WRel B b w1 W) => hFr.t4 h
 clear g0 g1 c0 c1 c2 c3 c4
 have hdr := Q2u hR
 have hdb : Below w1.heap.size w1 w1.drew := (Below.refl _ _).drew
 go_region_held2 (fun W => WRel B b w1 W) (with_reducible first | assumption | exact Q6s (by assumption) hB1 _) (first | (go_at_call 54; (with_reducible refine (hI.out _ (by assumption) (by assumption)).mono ?_); rintro e x5 ⟨rfl, r5, b5⟩) | (go_at_call 53; (with_reducible refine (hA.out _ (by assumption)).mono ?_); rintro e x6 ⟨rfl, hst3⟩; have r6 := hst3.rel))
 all_goals
  go_wp2_with fail
  go_end0
  exact ⟨rfl, hst1.out.call hst3⟩
def Q3u (B b : Nat) (l : List UInt8) (w : World) : Prop := ∃ (p : Value) (g cap : Nat) (cur : Array Value) (fr : Nat × Nat), B ≤ b ∧ B ≤ g ∧ b ≠ g ∧ w.heap[b]? = some (.cells #[p, .slice (some ⟨g, 0, none⟩) l.length cap] 77 (0, 0)) ∧ w.heap[g]? = some (.cells cur 5 fr) ∧
 l.length ≤ cap ∧ cap ≤ maxLen ∧ cur.size = cap ∧ ∀ (j : Nat) (x : UInt8), l[j]? = some x → cur[j]? = some (Value.int .u8 x.toNat)
theorem Qc8 {B b : Nat} {l : List UInt8} {w : World} (h : IsWr B b l w) (h0 : l ≠ []) : Q3u B b l w := by
 obtain ⟨p, hB, v, hbk, hown, hne⟩ : ∃ p, Lib.BuilderAt 77 5 B b p (Lib.byteCells l) w := by
  rcases h with h | h
  ·exact ⟨_, h⟩
  ·exact ⟨_, h⟩
 have hl0 : l.length ≠ 0 := by simpa using h0
 rw [Lib.byteCells_length] at hown
 obtain ⟨g, cap, cur, rfl, hbg, hg, hnc, hcm, hcs, htake⟩ : ∃ g cap cur, v = .slice (some ⟨g, 0, none⟩) l.length cap ∧ B ≤ g ∧ w.heap[g]? = some (.cells cur 5 (0, 0)) ∧ l.length ≤ cap ∧ cap ≤ maxLen ∧ cur.size = cap * 1 ∧ cur.toList.take (l.length * 1) = Lib.byteCells l := by
  rcases hown.2 with ⟨_, hz⟩ | ⟨g, cap, cur, hv, r⟩
  ·exact absurd hz hl0
  ·exact ⟨g, cap, cur, hv, r⟩
 refine ⟨p, g, cap, cur, (0, 0), hB, hbg, fun e => by subst e; rw [hbk] at hg; simp only [Option.some.injEq, Obj.cells.injEq] at hg; exact absurd hg.2.1 (by decide), hbk, hg, hnc, hcm, by omega, fun j x hx => ?_⟩
 have h1 := hown.cells (g := g) rfl j (.int .u8 x.toNat) (by simp [Lib.byteCells, hx])
 have h2 : ((⟨g, 0, none⟩ : Addr).add j) = ⟨g, j, none⟩ := by simp [Addr.add]; exact fun h => h.symm
 rw [h2, World.cell?, hg] at h1
 simpa using h1
theorem Q3u.low {B b : Nat} {l : List UInt8} {w w' : World} (h : Q3u B b l w) (hb : Below w.heap.size w w') : Q3u B b l w' := by
 obtain ⟨p, g, cap, cur, fr, h1, h2, h3, h4, h5, h6⟩ := h
 exact ⟨p, g, cap, cur, fr, h1, h2, h3, (hb.block b (Array.getElem?_eq_some_iff.1 h4).1).trans h4, (hb.block g (Array.getElem?_eq_some_iff.1 h5).1).trans h5, h6⟩
theorem Qao (B b : Nat) (l : List UInt8) (w : World) (h : Q3u B b l w) : Calls Tryz.prog 58 #[.pointer (some ⟨b, 0, none⟩)] w fun e w' => e = .returned (.int .i64 l.length) ∧ w' = w := by
 obtain ⟨p, g, cap, cur, fr, h1, h2, h3, h4, h5, h6⟩ := h
 have c1 : w.cell? ⟨b, 1, none⟩ = some (.slice (some ⟨g, 0, none⟩) l.length cap) := by rw [Lib.cell_of_heap h4]; rfl
 clear h4 h5 h6
 go_enter Tryz.func58, Tryz.ntmps58
 go_wp2
 go_ret
 exact ⟨rfl, rfl⟩
theorem Qki {B b g n : Nat} {l : List UInt8} {w : World} (h : ∃ (p : Value) (cap : Nat) (cur : Array Value) (fr : Nat × Nat), B ≤ b ∧ B ≤ g ∧ b ≠ g ∧ w.heap[b]? = some (.cells #[p, .slice (some ⟨g, 0, none⟩) l.length cap] 77 (0, 0)) ∧ w.heap[g]? = some (.cells cur 5 fr) ∧
 l.length ≤ cap ∧ cap ≤ maxLen ∧ cur.size = cap ∧ ∀ (j : Nat) (x : UInt8), l[j]? = some x → cur[j]? = some (Value.int .u8 x.toNat)) : Q3u B b l (w.freeze ⟨g, 0, none⟩ n) := by
 obtain ⟨p, cap, cur, ⟨lo, hi⟩, h1, h2, h3, h4, h5, h6⟩ := h
 unfold World.freeze
 split
 ·exact ⟨p, g, cap, cur, (lo, hi), h1, h2, h3, h4, h5, h6⟩
 ·refine ⟨p, g, cap, cur, (if lo == hi then ((0 : Nat), 0 + n) else (min lo 0, max hi (0 + n))), h1, h2, h3, ?_, ?_, h6⟩
  ·simp only [Array.getElem?_modify]
   rw [if_neg (fun e => h3 e.symm)]
   exact h4
  ·simp only [Array.getElem?_modify, if_true, h5, Option.map_some]
theorem Q6k (B b : Nat) (l : List UInt8) (w : World) (h : Q3u B b l w) (h0 : l ≠ []) : Calls Tryz.prog 59 #[.pointer (some ⟨b, 0, none⟩)] w fun e w' => e = .returned (.string ⟨l.toArray⟩) ∧ Q3u B b l w' ∧ Below B w w' := by
 obtain ⟨p, g, cap, cur, fr, h1, h2, h3, h4, h5, h6, h7, h8, h9⟩ := h
 have hl0 : l.length ≠ 0 := by simpa using h0
 have hbk : w.drew.heap[b]? = some (.cells #[p, .slice (some ⟨g, 0, none⟩) l.length cap] 77 (0, 0)) := h4
 have hg : w.drew.heap[g]? = some (.cells cur 5 fr) := h5
 have c1 : w.drew.cell? ⟨b, 1, none⟩ = some (.slice (some ⟨g, 0, none⟩) l.length cap) := by rw [Lib.cell_of_heap hbk]; rfl
 have hSD : (Builtin.unsafeSliceData_ #[73] 125 #[.slice (some ⟨g, 0, none⟩) l.length cap]).run Tryz.prog w.drew = .ok (.pointer (some ⟨g, 0, none⟩)) w.drew :=
  Lib.run_unsafeSliceData_row _ _ _ _ _ _ (by omega)
 have hUS : (Builtin.unsafeString_ #[125, 3] 9 #[.pointer (some ⟨g, 0, none⟩), .int .i64 l.length]).run Tryz.prog w.drew = .ok (.string ⟨l.toArray⟩) (w.drew.freeze ⟨g, 0, none⟩ l.length) := by
  refine Lib.run_unsafeString_row w.drew 125 3 9 5 Tryz.underlying125 (by kernel_rfl) g cur.size (by simp [World.shape?, hg]) l h0 (by omega) (by unfold maxLen at h7; omega) ?_
  intro j x hx
  have h2 : ((⟨g, 0, none⟩ : Addr).add j) = ⟨g, j, none⟩ := by simp [Addr.add]; exact fun h => h.symm
  rw [h2, World.cell?, hg]
  simpa using h9 j x hx
 have fin : Q3u B b l (w.drew.freeze ⟨g, 0, none⟩ l.length) := Qki ⟨p, cap, cur, fr, h1, h2, h3, hbk, hg, h6, h7, h8, h9⟩
 have fb : Below B w (w.drew.freeze ⟨g, 0, none⟩ l.length) := Lib.below_freeze (Below.drew (Below.refl B w)) (p := ⟨g, 0, none⟩) h2 _
 replace fin := qh fin
 replace fb := qh fb
 clear h4 h5 hbk hg h9
 go_enter Tryz.func59, Tryz.ntmps59
 go_wp2
 go_region
 all_goals (go_wp2; go_ret; exact ⟨rfl, fin.out, fb.out⟩)
section
attribute [local go_sem ↓] Q82 Qa1
theorem Qn6 (k : Nat) (hk : k ≤ 2) (tx : List UInt8) (n a : Int) (ks : List Syn) (q : Option Addr) (d : Nat) (w : World) (hl : ks.length ≤ 100000)
  (hks : KidR w ks (.slice q ks.length d))
  (hV : ∀ i (hi : i < ks.length) q d W, Below w.heap.size w W → KidR W ks[i].kids (.slice q ks[i].kids.length d) → Calls Tryz.prog 56 #[.int .i64 k, Q3 ks[i] q d] W (Q6 W (okP k ks[i]))) :
  Calls Tryz.prog 56 #[.int .i64 k, Q3 (.mk 12 tx n a ks) q d] w (Q6 w (okP k (.mk 12 tx n a ks))) := by
 rw [Q6m hk rfl]
 show Calls Tryz.prog 56 #[.int .i64 k, (Value.agg #[.int .i64 12, .string ⟨List.toArray tx⟩, .int .i64 n, .int .i64 a, .slice q ks.length d])] w (Q6 w (decide (k ≠ 1) && ((tx == []) && decide (n = 0)) && decide (ks.length = 1) && okP k (kid0 (.mk 12 tx n a ks))))
 obtain ⟨res, hres⟩ : ∃ r, Hid (r = (decide (k ≠ 1) && ((tx == []) && decide (n = 0)) && decide (ks.length = 1) && okP k (kid0 (.mk 12 tx n a ks)))) := ⟨_, qh rfl⟩
 rw [← hres.out]
 have hA := fun W => Qpl 12 tx n a q ks.length d W
 generalize hbr : ((tx == []) && decide (n = 0)) = br at hA
 rw [hbr] at hres
 have ek : ((k : Int) = 1) = (k = 1) := by rw [eq_iff_iff]; omega
 have e2 : ((ks.length : Int) = 1) = (ks.length = 1) := by rw [eq_iff_iff]; omega
 replace hA := qh hA
 replace ek := qh ek
 replace e2 := qh e2
 by_cases hL : ks.length = 1
 ·obtain ⟨x, rfl⟩ := List.length_eq_one_iff.1 hL
  obtain ⟨b, o, q', d', rfl, hc, hkk⟩ := Q2q hks (by simp)
  have hV0 := hV 0 (by simp)
  simp only [List.getElem_cons_zero] at hc hkk hV0
  have hS := fun K W (hX : W.cell? ⟨K, 0, none⟩ = some (.int .i64 k)) (hbW : Below w.heap.size w W) => Qa8 k x.kind x.text x.num x.pos q' x.kids.length d' K (okP k x) W hX (fun W' hb' => hV0 q' d' W' (hbW.trans (hb'.mono hbW.size)) (hkk.low (hbW.trans (hb'.mono hbW.size))))
  replace hS := qh hS
  replace hc := qh (fun W (h : Below w.heap.size w W) => (⟨Qj hc.1 h, Qj hc.2.1 h, Qj hc.2.2.1 h, Qj hc.2.2.2.1 h, Qj hc.2.2.2.2 h⟩ : KidC W b o x q' d'))
  clear hV hV0 hks hkk hbr
  simp only [List.length_singleton] at *
  have hB := Q2a w k 12 tx n a (some ⟨b, o, none⟩) 1 d
  have hX := Q25 w k 12 tx n a (some ⟨b, o, none⟩) 1 d
  have hC := Q23 w k 12 tx n a (some ⟨b, o, none⟩) 1 d
  unfold Q0u boxed at hB hX hC
  go_enter Tryz.func56, Tryz.ntmps56
  go_upto_region 9 with (fail)
  generalize World.alloc (World.alloc w _) _ = w1 at hB hX hC ⊢
  generalize w.heap.size + 1 = B at hC ⊢
  obtain ⟨c0, c1, c2, c3, c4⟩ := hC
  replace hB := qh hB
  go_wp2_with (first | (go_at_call 103; (with_reducible refine (hA.out _).mono ?_); rintro e x2 ⟨rfl, b2⟩; have f4 := Qj c4 b2; have fX := Qj hX b2; have hB2 := qh (hB.out.trans (b2.mono hB.out.size)); obtain ⟨d0, d1, d2, d3, d4⟩ := hc.out x2 hB2.out) | (go_at_call 101; (with_reducible refine (hS.out _ _ fX hB2.out).mono ?_); rintro e x3 ⟨rfl, b3⟩))
  all_goals
   go_ret
   refine ⟨Q4 ?_, by first | exact hB.out | exact hB2.out | exact hB2.out.trans (b3.mono hB2.out.size)⟩
   rw [hres.out]
   have ek' := ek.out
   simp_all [beqI, kid0, Syn.kids]
 ·replace hL := show ¬ (ks.length : Int) = 1 by omega
  clear hV hks hbr
  generalize ks.length = m at *
  have hB := Q2a w k 12 tx n a q m d
  have hX := Q25 w k 12 tx n a q m d
  have hC := Q23 w k 12 tx n a q m d
  unfold Q0u boxed at hB hX hC
  go_enter Tryz.func56, Tryz.ntmps56
  go_upto_region 9 with (fail)
  generalize World.alloc (World.alloc w _) _ = w1 at hB hX hC ⊢
  generalize w.heap.size + 1 = B at hC ⊢
  obtain ⟨c0, c1, c2, c3, c4⟩ := hC
  replace hB := qh hB
  go_wp2_with (first | (go_at_call 103; (with_reducible refine (hA.out _).mono ?_); rintro e x2 ⟨rfl, b2⟩; have f4 := Qj c4 b2; have hB2 := qh (hB.out.trans (b2.mono hB.out.size))))
  all_goals
   go_ret
   refine ⟨Q4 ?_, by first | exact hB.out | exact hB2.out⟩
   rw [hres.out]
   have ek' := ek.out
   have e2' := e2.out
   simp_all [beqI]
theorem Qj7 (k : Nat) (hk : k ≤ 2) (tx : List UInt8) (n a : Int) (ks : List Syn) (q : Option Addr) (d : Nat) (w : World) (ht : tx.length ≤ 1000000) (hg : Q0q w) (hsp : Q0p w) :
  Calls Tryz.prog 56 #[.int .i64 k, Q3 (.mk 8 tx n a ks) q d] w (Q6 w (okP k (.mk 8 tx n a ks))) := by
 rw [Q7i hk rfl]
 show Calls Tryz.prog 56 #[.int .i64 k, (Value.agg #[.int .i64 8, .string ⟨List.toArray tx⟩, .int .i64 n, .int .i64 a, .slice q ks.length d])] w (Q6 w (decide (k ≠ 2) && isNm (.mk 8 tx n a ks)))
 have hA := fun W (h : Below w.heap.size w W) => Qgf 8 tx n a q ks d W ht (Q72 hg h) (hsp.below h)
 generalize isNm (.mk 8 tx n a ks) = br at hA ⊢
 obtain ⟨res, hres⟩ : ∃ r, Hid (r = (decide (k ≠ 2) && br)) := ⟨_, qh rfl⟩
 rw [← hres.out]
 have ek : ((k : Int) = 2) = (k = 2) := by rw [eq_iff_iff]; omega
 replace hA := qh hA
 replace ek := qh ek
 clear ht hg hsp
 generalize ks.length = m at *
 have hB := Q2a w k 8 tx n a q m d
 have hX := Q25 w k 8 tx n a q m d
 have hC := Q23 w k 8 tx n a q m d
 unfold Q0u boxed at hB hX hC
 go_enter Tryz.func56, Tryz.ntmps56
 go_upto_region 14 with (fail)
 generalize World.alloc (World.alloc w _) _ = w1 at hB hX hC ⊢
 generalize w.heap.size + 1 = B at hC ⊢
 obtain ⟨c0, c1, c2, c3, c4⟩ := hC
 replace hB := qh hB
 go_wp2_with (first | (go_at_call 98; (with_reducible refine (hA.out _ hB.out).mono ?_); rintro e x2 ⟨rfl, b2⟩; have hB2 := qh (hB.out.trans (b2.mono hB.out.size))))
 all_goals
  go_ret
  refine ⟨Q4 ?_, by first | exact hB.out | exact hB2.out⟩
  rw [hres.out]
  have ek' := ek.out
  simp_all [beqI]
theorem Qo8 (k : Nat) (hk : k ≤ 2) (tx : List UInt8) (n a : Int) (ks : List Syn) (q : Option Addr) (d : Nat) (w : World) :
  Calls Tryz.prog 56 #[.int .i64 k, Q3 (.mk 9 tx n a ks) q d] w (Q6 w (okP k (.mk 9 tx n a ks))) := by
 rw [Q4e hk rfl]
 show Calls Tryz.prog 56 #[.int .i64 k, (Value.agg #[.int .i64 9, .string ⟨List.toArray tx⟩, .int .i64 n, .int .i64 a, .slice q ks.length d])] w (Q6 w (decide (k = 0) && Q2 (.mk 9 tx n a ks)))
 have hA := fun W => Qa5 9 tx n a q ks d W
 generalize Q2 (.mk 9 tx n a ks) = br at hA ⊢
 obtain ⟨res, hres⟩ : ∃ r, Hid (r = (decide (k = 0) && br)) := ⟨_, qh rfl⟩
 rw [← hres.out]
 have ek : ((k : Int) = 0) = (k = 0) := by rw [eq_iff_iff]; omega
 replace hA := qh hA
 replace ek := qh ek
 generalize ks.length = m at *
 have hB := Q2a w k 9 tx n a q m d
 have hX := Q25 w k 9 tx n a q m d
 have hC := Q23 w k 9 tx n a q m d
 unfold Q0u boxed at hB hX hC
 go_enter Tryz.func56, Tryz.ntmps56
 go_upto_region 16 with (fail)
 generalize World.alloc (World.alloc w _) _ = w1 at hB hX hC ⊢
 generalize w.heap.size + 1 = B at hC ⊢
 obtain ⟨c0, c1, c2, c3, c4⟩ := hC
 replace hB := qh hB
 go_wp2_with (first | (go_at_call 104; (with_reducible refine (hA.out _).mono ?_); rintro e x2 ⟨rfl, b2⟩; have hB2 := qh (hB.out.trans (b2.mono hB.out.size))))
 all_goals
  go_ret
  refine ⟨Q4 ?_, by first | exact hB.out | exact hB2.out⟩
  rw [hres.out]
  have ek' := ek.out
  simp_all [beqI]
theorem Qra (k : Nat) (hk : k ≤ 2) (tx : List UInt8) (n a : Int) (ks : List Syn) (q : Option Addr) (d : Nat) (w : World)
  (hC : ∀ W, Below w.heap.size w W → Calls Tryz.prog 105 #[.int .i64 k, (Value.agg #[.int .i64 10, .string ⟨List.toArray tx⟩, .int .i64 n, .int .i64 a, .slice q ks.length d])] W (Q6 W (Q96 k (.mk 10 tx n a ks)))) :
  Calls Tryz.prog 56 #[.int .i64 k, Q3 (.mk 10 tx n a ks) q d] w (Q6 w (okP k (.mk 10 tx n a ks))) := by
 rw [Qjm hk rfl]
 show Calls Tryz.prog 56 #[.int .i64 k, (Value.agg #[.int .i64 10, .string ⟨List.toArray tx⟩, .int .i64 n, .int .i64 a, .slice q ks.length d])] w (Q6 w (decide (n = 0) && Q96 k (.mk 10 tx n a ks)))
 generalize Q96 k (.mk 10 tx n a ks) = br at hC ⊢
 obtain ⟨res, hres⟩ : ∃ r, Hid (r = (decide (n = 0) && br)) := ⟨_, qh rfl⟩
 rw [← hres.out]
 replace hC := qh hC
 generalize ks.length = m at *
 have hB := Q2a w k 10 tx n a q m d
 have hX := Q25 w k 10 tx n a q m d
 have hC := Q23 w k 10 tx n a q m d
 unfold Q0u boxed at hB hX hC
 go_enter Tryz.func56, Tryz.ntmps56
 go_upto_region 18 with (fail)
 generalize World.alloc (World.alloc w _) _ = w1 at hB hX hC ⊢
 generalize w.heap.size + 1 = B at hC ⊢
 obtain ⟨c0, c1, c2, c3, c4⟩ := hC
 replace hB := qh hB
 by_cases hn : n = 0
 ·subst hn
  go_wp2_with (first | (go_at_call 105; (with_reducible refine (hC.out _ hB.out).mono ?_); rintro e x2 ⟨rfl, b2⟩; have hB2 := qh (hB.out.trans (b2.mono hB.out.size))))
  all_goals
   go_ret
   refine ⟨Q4 ?_, by first | exact hB.out | exact hB2.out⟩
   rw [hres.out]
   simp_all [beqI]
 ·go_wp2_with fail
  all_goals
   go_ret
   refine ⟨Q4 ?_, hB.out⟩
   rw [hres.out]
   simp_all [beqI]
theorem Qsx (k : Nat) (kd : Int) (tx : List UInt8) (n a : Int) (ks : List Syn) (q : Option Addr) (d : Nat) (w : World) (h8 : kd ≠ 8) (h9 : kd ≠ 9) (h10 : kd ≠ 10) (h11 : kd ≠ 11) (h12 : kd ≠ 12) (h13 : kd ≠ 13) :
  Calls Tryz.prog 56 #[.int .i64 k, Q3 (.mk kd tx n a ks) q d] w (Q6 w (okP k (.mk kd tx n a ks))) := by
 rw [Q5w (t := .mk kd tx n a ks) h8 h9 h10 h11 h12 h13]
 show Calls Tryz.prog 56 #[.int .i64 k, (Value.agg #[.int .i64 kd, .string ⟨List.toArray tx⟩, .int .i64 n, .int .i64 a, .slice q ks.length d])] w (Q6 w false)
 generalize ks.length = m at *
 have hB := Q2a w k kd tx n a q m d
 have hX := Q25 w k kd tx n a q m d
 have hC := Q23 w k kd tx n a q m d
 unfold Q0u boxed at hB hX hC
 go_enter Tryz.func56, Tryz.ntmps56
 go_upto_region 3 with (fail)
 generalize World.alloc (World.alloc w _) _ = w1 at hB hX hC ⊢
 generalize w.heap.size + 1 = B at hC ⊢
 obtain ⟨c0, c1, c2, c3, c4⟩ := hC
 replace hB := qh hB
 go_wp2_with fail
 all_goals
  go_ret
  exact ⟨rfl, hB.out⟩
theorem Qly (k : Nat) (hk : k ≤ 2) (tx : List UInt8) (n a : Int) (ks : List Syn) (q : Option Addr) (d : Nat) (w : World) (hl : ks.length ≤ 100000) (hM : ∀ z ∈ ks, z.text.length ≤ 1000000) (hg : Q0q w) (hsp : Q0p w)
  (hks : KidR w ks (.slice q ks.length d))
  (hV : ∀ i (hi : i < ks.length) q d W, Below w.heap.size w W → KidR W ks[i].kids (.slice q ks[i].kids.length d) → Calls Tryz.prog 56 #[.int .i64 k, Q3 ks[i] q d] W (Q6 W (okP k ks[i]))) :
  Calls Tryz.prog 56 #[.int .i64 k, Q3 (.mk 13 tx n a ks) q d] w (Q6 w (okP k (.mk 13 tx n a ks))) := by
 rw [Q6o hk rfl]
 show Calls Tryz.prog 56 #[.int .i64 k, (Value.agg #[.int .i64 13, .string ⟨List.toArray tx⟩, .int .i64 n, .int .i64 a, .slice q ks.length d])] w (Q6 w (decide (k = 0) && (tx == kAll || tx == Q2c || tx == Qe) && decide (n = 0) && decide (ks.length = 2) && isNm (kid0 (.mk 13 tx n a ks)) && okP k (kid1 (.mk 13 tx n a ks))))
 obtain ⟨res, hres⟩ : ∃ r, Hid (r = (decide (k = 0) && (tx == kAll || tx == Q2c || tx == Qe) && decide (n = 0) && decide (ks.length = 2) && isNm (kid0 (.mk 13 tx n a ks)) && okP k (kid1 (.mk 13 tx n a ks)))) := ⟨_, qh rfl⟩
 rw [← hres.out]
 have ek : ((k : Int) = 0) = (k = 0) := by rw [eq_iff_iff]; omega
 have e2 : ((ks.length : Int) = 2) = (ks.length = 2) := by rw [eq_iff_iff]; omega
 replace ek := qh ek
 replace e2 := qh e2
 by_cases hL : ks.length = 2
 ·obtain ⟨x, y, rfl⟩ : ∃ x y, ks = [x, y] := by
   match ks, hL with
   | [x, y], _ => exact ⟨x, y, rfl⟩
  obtain ⟨b, o, q', d', rfl, hc, hkk⟩ := Q2q hks (by simp)
  obtain ⟨q2, d2, hc2, hkk2⟩ := Q63 hks (by simp)
  have hV0 := hV 1 (by simp)
  simp only [List.getElem_cons_zero, List.getElem_cons_succ] at hc hkk hV0 hc2 hkk2
  have hS := fun K W (hX : W.cell? ⟨K, 0, none⟩ = some (.int .i64 k)) (hbW : Below w.heap.size w W) => Qa8 k y.kind y.text y.num y.pos q2 y.kids.length d2 K (okP k y) W hX (fun W' hb' => hV0 q2 d2 W' (hbW.trans (hb'.mono hbW.size)) (hkk2.low (hbW.trans (hb'.mono hbW.size))))
  have hA : ∀ W (h : Below w.heap.size w W), Calls Tryz.prog 98 #[Q3 x q' d'] W (Q6 W (isNm x)) := fun W h => by
   have hT := hM x (by simp)
   obtain ⟨xk, xt, xn, xa, xs⟩ := x
   exact Qgf xk xt xn xa q' xs d' W hT (Q72 hg h) (hsp.below h)
  replace hA := qh hA
  replace hS := qh hS
  replace hc := qh (fun W (h : Below w.heap.size w W) => Ql hc h)
  replace hc2 := qh (fun W (h : Below w.heap.size w W) => Ql hc2 h)
  clear hV hV0 hks hkk hkk2 hM hg hsp
  have hlen : ([x, y] : List Syn).length = 2 := rfl
  rw [hlen] at *
  have hB := Q2a w k 13 tx n a (some ⟨b, o, none⟩) 2 d
  have hX := Q25 w k 13 tx n a (some ⟨b, o, none⟩) 2 d
  have hC := Q23 w k 13 tx n a (some ⟨b, o, none⟩) 2 d
  unfold Q0u boxed at hB hX hC
  go_enter Tryz.func56, Tryz.ntmps56
  go_upto_region 11 with (fail)
  generalize World.alloc (World.alloc w _) _ = w1 at hB hX hC ⊢
  generalize w.heap.size + 1 = B at hC ⊢
  obtain ⟨c0, c1, c2, c3, c4⟩ := hC
  replace hB := qh hB
  obtain ⟨d0, d1, d2', d3, d4⟩ := hc.out w1 hB.out
  go_wp2_with (first | (go_at_call 98; (with_reducible refine (hA.out _ hB.out).mono ?_); rintro e x2 ⟨rfl, b2⟩; have f4 := Qj c4 b2; have fX := Qj hX b2; have hB2 := qh (hB.out.trans (b2.mono hB.out.size)); obtain ⟨g0, g1, g2, g3, g4⟩ := hc2.out x2 hB2.out) | (go_at_call 101; (with_reducible refine (hS.out _ _ fX hB2.out).mono ?_); rintro e x3 ⟨rfl, b3⟩))
  all_goals
   go_ret
   refine ⟨Q4 ?_, by first | exact hB.out | exact hB2.out | exact hB2.out.trans (b3.mono hB2.out.size)⟩
   rw [hres.out]
   have ek' := ek.out
   simp_all [beqI, kid0, kid1, Syn.kids]
 ·replace hL := show ¬ (ks.length : Int) = 2 by omega
  clear hV hks hM
  generalize ks.length = m at *
  have hB := Q2a w k 13 tx n a q m d
  have hX := Q25 w k 13 tx n a q m d
  have hC := Q23 w k 13 tx n a q m d
  unfold Q0u boxed at hB hX hC
  go_enter Tryz.func56, Tryz.ntmps56
  go_upto_region 11 with (fail)
  generalize World.alloc (World.alloc w _) _ = w1 at hB hX hC ⊢
  generalize w.heap.size + 1 = B at hC ⊢
  obtain ⟨c0, c1, c2, c3, c4⟩ := hC
  replace hB := qh hB
  go_wp2_with fail
  all_goals
   go_ret
   refine ⟨Q4 ?_, hB.out⟩
   rw [hres.out]
   have ek' := ek.out
   have e2' := e2.out
   simp_all [beqI]
end
end Go.Proofs.YtplbfmcgddnkeaaGreatDoor
