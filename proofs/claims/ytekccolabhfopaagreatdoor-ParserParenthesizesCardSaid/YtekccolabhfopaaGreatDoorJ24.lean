/- Joined: ParX, RpR. -/
import Derived.Test.YtekccolabhfopaaGreatDoorJ23
import Derived.Test.YtekccolabhfopaaGreatDoorJ07
set_option linter.unusedVariables false
set_option linter.unusedSimpArgs false
section
/- Walks: Parse, Cond, Scheme, Formula of package parser. -/
set_option maxHeartbeats 1000000
set_option maxRecDepth 100000
namespace Go.Proofs.YtekccolabhfopaaGreatDoor
open Go.RowKit
theorem setSyn_below {w W : World} (h : Below w.heap.size w W) (v0 v1 v2 v3 v4 : Value) : Below w.heap.size w (setSyn W w.heap.size v0 v1 v2 v3 v4) :=
  ⟨(setSyn_os W _ _ _ _ _ _).1.trans h.os, (setSyn_os W _ _ _ _ _ _).2.1.trans h.tape, (setSyn_os W _ _ _ _ _ _).2.2.trans h.output, by rw [setSyn_size]; exact h.size, fun k hk => (heap_setSyn_ne (by omega)).trans (h.block k hk)⟩
theorem xParse_any (s : List UInt8) (o : Out Syn) (w : World) (hp : ∀ W, Below w.heap.size w W → Calls Tryz.prog 27 #[.string ⟨s.toArray⟩, .func (.func 28) #[] #[]] W (PRes W o)) :
    Calls Tryz.prog 13 #[.string ⟨s.toArray⟩] w (PRes w o) := by
  have hB1 : Below w.heap.size w (w.alloc (.cells z5.toArray 26)) := (Below.refl _ _).alloc (Nat.le_refl _) _
  have hcall := hp _ hB1
  have hz := World.size_alloc w (.cells z5.toArray 26)
  have hn := heap_alloc_new w (.cells z5.toArray 26)
  replace hcall := Lib.hid hcall
  replace hB1 := Lib.hid hB1
  replace hz := Lib.hid hz
  replace hn := Lib.hid hn
  clear hp
  go_enter Tryz.func13, Tryz.ntmps13
  go_wp2_with fail
  cases o with
  | none =>
    (with_reducible refine (hcall.out).mono ?_); rintro e w2 ⟨_, hf⟩
    exact hf.elim
  | err p x =>
    (with_reducible refine (hcall.out).mono ?_); rintro e w2 ⟨b2, rfl⟩
    rw [hz.out] at b2
    have q4 := (b2.block w.heap.size (by omega)).trans hn.out
    have hsb : SynBlk w2 w.heap.size := ⟨_, _, _, _, _, _, q4⟩
    have hBz := setSyn_below (hB1.out.trans (b2.mono (Nat.le_succ _))) (.int .i64 0) (.string ⟨#[]⟩) (.int .i64 0) (.int .i64 0) (.slice none 0 0)
    have hh := setSyn_held w2 w.heap.size (.int .i64 0) (.string ⟨#[]⟩) (.int .i64 0) (.int .i64 0) (.slice none 0 0) _ _ _ _ _ _ q4
    obtain ⟨⟨s0, s1, s2, s3, s4⟩, _⟩ := own5 hh
    replace hBz := Lib.hid hBz
    clear hh q4 b2 hcall
    go_wp21
    exact bodyPost_ret (v := .tuple #[.agg #[.int .i64 0, .string ⟨#[]⟩, .int .i64 0, .int .i64 0, .slice none 0 0], .int .i64 p, .int .i64 (x : Nat)]) (by simp [results, Tryz.results13, go_sem, s0, s1, s2, s3, s4]) rfl ⟨hBz.out, rfl⟩
  | ok t j =>
    (with_reducible refine (hcall.out).mono ?_); rintro e w2 ⟨b2, v, rfl, kv, rfl, hk⟩
    obtain ⟨g, m, cp, rfl⟩ := hk.shape
    cases t with
    | mk k tx n a kids =>
    simp only [Syn.kind, Syn.text, Syn.num, Syn.pos, Syn.kids] at hk ⊢
    rw [hz.out] at b2 hk
    have q4 := (b2.block w.heap.size (by omega)).trans hn.out
    have hsb : SynBlk w2 w.heap.size := ⟨_, _, _, _, _, _, q4⟩
    have hBz := setSyn_below (hB1.out.trans (b2.mono (Nat.le_succ _))) (.int .i64 k) (.string ⟨tx.toArray⟩) (.int .i64 n) (.int .i64 a) (.slice g m cp)
    have hh := setSyn_held w2 w.heap.size (.int .i64 k) (.string ⟨tx.toArray⟩) (.int .i64 n) (.int .i64 a) (.slice g m cp) _ _ _ _ _ _ q4
    have hkz : KidsAt (Fr w.heap.size) (setSyn w2 w.heap.size (.int .i64 k) (.string ⟨tx.toArray⟩) (.int .i64 n) (.int .i64 a) (.slice g m cp)) kids (.slice g m cp) :=
      KidsAt.keep (S := Fr (w.heap.size + 1)) (fun k' (hk' : w.heap.size + 1 ≤ k') _ => heap_setSyn_ne (by omega)) (fun k' (hk' : w.heap.size + 1 ≤ k') => show w.heap.size ≤ k' by omega) hk
    obtain ⟨⟨s0, s1, s2, s3, s4⟩, _⟩ := own5 hh
    replace hBz := Lib.hid hBz
    replace hkz := Lib.hid hkz
    clear hh q4 b2 hcall hk
    go_wp21
    exact bodyPost_ret (v := .tuple #[.agg #[.int .i64 k, .string ⟨tx.toArray⟩, .int .i64 n, .int .i64 a, .slice g m cp], .int .i64 0, .int .i64 0]) (by simp [results, Tryz.results13, go_sem, s0, s1, s2, s3, s4]) rfl ⟨hBz.out, _, rfl, ⟨_, rfl, hkz.out⟩⟩
theorem xCond_any (s : List UInt8) (o : Out Syn) (w : World) (hp : ∀ W, Below w.heap.size w W → Calls Tryz.prog 27 #[.string ⟨s.toArray⟩, .func (.func 30) #[] #[]] W (PRes W o)) :
    Calls Tryz.prog 16 #[.string ⟨s.toArray⟩] w (PRes w o) := by
  have hB1 : Below w.heap.size w (w.alloc (.cells z5.toArray 26)) := (Below.refl _ _).alloc (Nat.le_refl _) _
  have hcall := hp _ hB1
  have hz := World.size_alloc w (.cells z5.toArray 26)
  have hn := heap_alloc_new w (.cells z5.toArray 26)
  replace hcall := Lib.hid hcall
  replace hB1 := Lib.hid hB1
  replace hz := Lib.hid hz
  replace hn := Lib.hid hn
  clear hp
  go_enter Tryz.func16, Tryz.ntmps16
  go_wp2_with fail
  cases o with
  | none =>
    (with_reducible refine (hcall.out).mono ?_); rintro e w2 ⟨_, hf⟩
    exact hf.elim
  | err p x =>
    (with_reducible refine (hcall.out).mono ?_); rintro e w2 ⟨b2, rfl⟩
    rw [hz.out] at b2
    have q4 := (b2.block w.heap.size (by omega)).trans hn.out
    have hsb : SynBlk w2 w.heap.size := ⟨_, _, _, _, _, _, q4⟩
    have hBz := setSyn_below (hB1.out.trans (b2.mono (Nat.le_succ _))) (.int .i64 0) (.string ⟨#[]⟩) (.int .i64 0) (.int .i64 0) (.slice none 0 0)
    have hh := setSyn_held w2 w.heap.size (.int .i64 0) (.string ⟨#[]⟩) (.int .i64 0) (.int .i64 0) (.slice none 0 0) _ _ _ _ _ _ q4
    obtain ⟨⟨s0, s1, s2, s3, s4⟩, _⟩ := own5 hh
    replace hBz := Lib.hid hBz
    clear hh q4 b2 hcall
    go_wp21
    exact bodyPost_ret (v := .tuple #[.agg #[.int .i64 0, .string ⟨#[]⟩, .int .i64 0, .int .i64 0, .slice none 0 0], .int .i64 p, .int .i64 (x : Nat)]) (by simp [results, Tryz.results16, go_sem, s0, s1, s2, s3, s4]) rfl ⟨hBz.out, rfl⟩
  | ok t j =>
    (with_reducible refine (hcall.out).mono ?_); rintro e w2 ⟨b2, v, rfl, kv, rfl, hk⟩
    obtain ⟨g, m, cp, rfl⟩ := hk.shape
    cases t with
    | mk k tx n a kids =>
    simp only [Syn.kind, Syn.text, Syn.num, Syn.pos, Syn.kids] at hk ⊢
    rw [hz.out] at b2 hk
    have q4 := (b2.block w.heap.size (by omega)).trans hn.out
    have hsb : SynBlk w2 w.heap.size := ⟨_, _, _, _, _, _, q4⟩
    have hBz := setSyn_below (hB1.out.trans (b2.mono (Nat.le_succ _))) (.int .i64 k) (.string ⟨tx.toArray⟩) (.int .i64 n) (.int .i64 a) (.slice g m cp)
    have hh := setSyn_held w2 w.heap.size (.int .i64 k) (.string ⟨tx.toArray⟩) (.int .i64 n) (.int .i64 a) (.slice g m cp) _ _ _ _ _ _ q4
    have hkz : KidsAt (Fr w.heap.size) (setSyn w2 w.heap.size (.int .i64 k) (.string ⟨tx.toArray⟩) (.int .i64 n) (.int .i64 a) (.slice g m cp)) kids (.slice g m cp) :=
      KidsAt.keep (S := Fr (w.heap.size + 1)) (fun k' (hk' : w.heap.size + 1 ≤ k') _ => heap_setSyn_ne (by omega)) (fun k' (hk' : w.heap.size + 1 ≤ k') => show w.heap.size ≤ k' by omega) hk
    obtain ⟨⟨s0, s1, s2, s3, s4⟩, _⟩ := own5 hh
    replace hBz := Lib.hid hBz
    replace hkz := Lib.hid hkz
    clear hh q4 b2 hcall hk
    go_wp21
    exact bodyPost_ret (v := .tuple #[.agg #[.int .i64 k, .string ⟨tx.toArray⟩, .int .i64 n, .int .i64 a, .slice g m cp], .int .i64 0, .int .i64 0]) (by simp [results, Tryz.results16, go_sem, s0, s1, s2, s3, s4]) rfl ⟨hBz.out, _, rfl, ⟨_, rfl, hkz.out⟩⟩
theorem xScheme_any (s : List UInt8) (o : Out Syn) (w : World) (hp : ∀ W, Below w.heap.size w W → Calls Tryz.prog 27 #[.string ⟨s.toArray⟩, .func (.func 31) #[] #[]] W (PRes W o)) :
    Calls Tryz.prog 18 #[.string ⟨s.toArray⟩] w (PRes w o) := by
  have hB1 : Below w.heap.size w (w.alloc (.cells z5.toArray 26)) := (Below.refl _ _).alloc (Nat.le_refl _) _
  have hcall := hp _ hB1
  have hz := World.size_alloc w (.cells z5.toArray 26)
  have hn := heap_alloc_new w (.cells z5.toArray 26)
  replace hcall := Lib.hid hcall
  replace hB1 := Lib.hid hB1
  replace hz := Lib.hid hz
  replace hn := Lib.hid hn
  clear hp
  go_enter Tryz.func18, Tryz.ntmps18
  go_wp2_with fail
  cases o with
  | none =>
    (with_reducible refine (hcall.out).mono ?_); rintro e w2 ⟨_, hf⟩
    exact hf.elim
  | err p x =>
    (with_reducible refine (hcall.out).mono ?_); rintro e w2 ⟨b2, rfl⟩
    rw [hz.out] at b2
    have q4 := (b2.block w.heap.size (by omega)).trans hn.out
    have hsb : SynBlk w2 w.heap.size := ⟨_, _, _, _, _, _, q4⟩
    have hBz := setSyn_below (hB1.out.trans (b2.mono (Nat.le_succ _))) (.int .i64 0) (.string ⟨#[]⟩) (.int .i64 0) (.int .i64 0) (.slice none 0 0)
    have hh := setSyn_held w2 w.heap.size (.int .i64 0) (.string ⟨#[]⟩) (.int .i64 0) (.int .i64 0) (.slice none 0 0) _ _ _ _ _ _ q4
    obtain ⟨⟨s0, s1, s2, s3, s4⟩, _⟩ := own5 hh
    replace hBz := Lib.hid hBz
    clear hh q4 b2 hcall
    go_wp21
    exact bodyPost_ret (v := .tuple #[.agg #[.int .i64 0, .string ⟨#[]⟩, .int .i64 0, .int .i64 0, .slice none 0 0], .int .i64 p, .int .i64 (x : Nat)]) (by simp [results, Tryz.results18, go_sem, s0, s1, s2, s3, s4]) rfl ⟨hBz.out, rfl⟩
  | ok t j =>
    (with_reducible refine (hcall.out).mono ?_); rintro e w2 ⟨b2, v, rfl, kv, rfl, hk⟩
    obtain ⟨g, m, cp, rfl⟩ := hk.shape
    cases t with
    | mk k tx n a kids =>
    simp only [Syn.kind, Syn.text, Syn.num, Syn.pos, Syn.kids] at hk ⊢
    rw [hz.out] at b2 hk
    have q4 := (b2.block w.heap.size (by omega)).trans hn.out
    have hsb : SynBlk w2 w.heap.size := ⟨_, _, _, _, _, _, q4⟩
    have hBz := setSyn_below (hB1.out.trans (b2.mono (Nat.le_succ _))) (.int .i64 k) (.string ⟨tx.toArray⟩) (.int .i64 n) (.int .i64 a) (.slice g m cp)
    have hh := setSyn_held w2 w.heap.size (.int .i64 k) (.string ⟨tx.toArray⟩) (.int .i64 n) (.int .i64 a) (.slice g m cp) _ _ _ _ _ _ q4
    have hkz : KidsAt (Fr w.heap.size) (setSyn w2 w.heap.size (.int .i64 k) (.string ⟨tx.toArray⟩) (.int .i64 n) (.int .i64 a) (.slice g m cp)) kids (.slice g m cp) :=
      KidsAt.keep (S := Fr (w.heap.size + 1)) (fun k' (hk' : w.heap.size + 1 ≤ k') _ => heap_setSyn_ne (by omega)) (fun k' (hk' : w.heap.size + 1 ≤ k') => show w.heap.size ≤ k' by omega) hk
    obtain ⟨⟨s0, s1, s2, s3, s4⟩, _⟩ := own5 hh
    replace hBz := Lib.hid hBz
    replace hkz := Lib.hid hkz
    clear hh q4 b2 hcall hk
    go_wp21
    exact bodyPost_ret (v := .tuple #[.agg #[.int .i64 k, .string ⟨tx.toArray⟩, .int .i64 n, .int .i64 a, .slice g m cp], .int .i64 0, .int .i64 0]) (by simp [results, Tryz.results18, go_sem, s0, s1, s2, s3, s4]) rfl ⟨hBz.out, _, rfl, ⟨_, rfl, hkz.out⟩⟩
theorem xFormula_any (s : List UInt8) (o : Out Syn) (w : World) (hp : ∀ W, Below w.heap.size w W → Calls Tryz.prog 27 #[.string ⟨s.toArray⟩, .func (.func 32) #[] #[]] W (PRes W o)) :
    Calls Tryz.prog 20 #[.string ⟨s.toArray⟩] w (PRes w o) := by
  have hB1 : Below w.heap.size w (w.alloc (.cells z5.toArray 26)) := (Below.refl _ _).alloc (Nat.le_refl _) _
  have hcall := hp _ hB1
  have hz := World.size_alloc w (.cells z5.toArray 26)
  have hn := heap_alloc_new w (.cells z5.toArray 26)
  replace hcall := Lib.hid hcall
  replace hB1 := Lib.hid hB1
  replace hz := Lib.hid hz
  replace hn := Lib.hid hn
  clear hp
  go_enter Tryz.func20, Tryz.ntmps20
  go_wp2_with fail
  cases o with
  | none =>
    (with_reducible refine (hcall.out).mono ?_); rintro e w2 ⟨_, hf⟩
    exact hf.elim
  | err p x =>
    (with_reducible refine (hcall.out).mono ?_); rintro e w2 ⟨b2, rfl⟩
    rw [hz.out] at b2
    have q4 := (b2.block w.heap.size (by omega)).trans hn.out
    have hsb : SynBlk w2 w.heap.size := ⟨_, _, _, _, _, _, q4⟩
    have hBz := setSyn_below (hB1.out.trans (b2.mono (Nat.le_succ _))) (.int .i64 0) (.string ⟨#[]⟩) (.int .i64 0) (.int .i64 0) (.slice none 0 0)
    have hh := setSyn_held w2 w.heap.size (.int .i64 0) (.string ⟨#[]⟩) (.int .i64 0) (.int .i64 0) (.slice none 0 0) _ _ _ _ _ _ q4
    obtain ⟨⟨s0, s1, s2, s3, s4⟩, _⟩ := own5 hh
    replace hBz := Lib.hid hBz
    clear hh q4 b2 hcall
    go_wp21
    exact bodyPost_ret (v := .tuple #[.agg #[.int .i64 0, .string ⟨#[]⟩, .int .i64 0, .int .i64 0, .slice none 0 0], .int .i64 p, .int .i64 (x : Nat)]) (by simp [results, Tryz.results20, go_sem, s0, s1, s2, s3, s4]) rfl ⟨hBz.out, rfl⟩
  | ok t j =>
    (with_reducible refine (hcall.out).mono ?_); rintro e w2 ⟨b2, v, rfl, kv, rfl, hk⟩
    obtain ⟨g, m, cp, rfl⟩ := hk.shape
    cases t with
    | mk k tx n a kids =>
    simp only [Syn.kind, Syn.text, Syn.num, Syn.pos, Syn.kids] at hk ⊢
    rw [hz.out] at b2 hk
    have q4 := (b2.block w.heap.size (by omega)).trans hn.out
    have hsb : SynBlk w2 w.heap.size := ⟨_, _, _, _, _, _, q4⟩
    have hBz := setSyn_below (hB1.out.trans (b2.mono (Nat.le_succ _))) (.int .i64 k) (.string ⟨tx.toArray⟩) (.int .i64 n) (.int .i64 a) (.slice g m cp)
    have hh := setSyn_held w2 w.heap.size (.int .i64 k) (.string ⟨tx.toArray⟩) (.int .i64 n) (.int .i64 a) (.slice g m cp) _ _ _ _ _ _ q4
    have hkz : KidsAt (Fr w.heap.size) (setSyn w2 w.heap.size (.int .i64 k) (.string ⟨tx.toArray⟩) (.int .i64 n) (.int .i64 a) (.slice g m cp)) kids (.slice g m cp) :=
      KidsAt.keep (S := Fr (w.heap.size + 1)) (fun k' (hk' : w.heap.size + 1 ≤ k') _ => heap_setSyn_ne (by omega)) (fun k' (hk' : w.heap.size + 1 ≤ k') => show w.heap.size ≤ k' by omega) hk
    obtain ⟨⟨s0, s1, s2, s3, s4⟩, _⟩ := own5 hh
    replace hBz := Lib.hid hBz
    replace hkz := Lib.hid hkz
    clear hh q4 b2 hcall hk
    go_wp21
    exact bodyPost_ret (v := .tuple #[.agg #[.int .i64 k, .string ⟨tx.toArray⟩, .int .i64 n, .int .i64 a, .slice g m cp], .int .i64 0, .int .i64 0]) (by simp [results, Tryz.results20, go_sem, s0, s1, s2, s3, s4]) rfl ⟨hBz.out, _, rfl, ⟨_, rfl, hkz.out⟩⟩
/-- What parse answers to a text. -/
def parseO (s : List UInt8) (r : List Tok → Rd) : Out Syn := match scan s with
  | .error (d, x) => .err d x
  | .ok T => whole T (r T)
end Go.Proofs.YtekccolabhfopaaGreatDoor
end
section
/- Walks: the exported functions of the reference's parser. -/
set_option maxHeartbeats 1000000
set_option maxRecDepth 100000
namespace Go.Proofs.YtekccolabhfopaaGreatDoor
open Go.RowKit
theorem rread_err (s : List UInt8) (K : Int) (d x : Nat) (w : World) (hs : s.length ≤ 1000000) (hx : x ≠ 0) (hT : scan s = .error (d, x)) :
    Calls Tryz.prog 29 #[.string ⟨s.toArray⟩, .int .i64 K] w (PRes w (.err d x)) := by
  have hB1 : Below w.heap.size w (w.alloc (.cells z5.toArray 26)) := (Below.refl _ _).alloc (Nat.le_refl _) _
  have hsc := refScan_any s (w.alloc (.cells z5.toArray 26)) hs
  rw [hT] at hsc
  have hbe : ((x : Int) != 0) = true := by rw [bne_iff_ne]; omega
  replace hsc := Lib.hid hsc
  clear hT
  go_enter Tryz.func29, Tryz.ntmps29
  go_wp2_with fail
  (with_reducible refine (hsc.out).mono ?_); rintro e w2 ⟨b2, h2⟩
  subst h2
  have hz1 : (w.alloc (.cells z5.toArray 26)).heap.size = w.heap.size + 1 := by simp only [World.size_alloc]
  rw [hz1] at b2
  have hR2 : w2.heap[w.heap.size]? = some (.cells z5.toArray 26 (0, 0)) := (b2.block _ (by omega)).trans (heap_alloc_new _ _)
  have hB2 : Below w.heap.size w w2 := hB1.trans (b2.mono (by omega))
  have hsb : SynBlk w2 w.heap.size := ⟨_, _, _, _, _, _, hR2⟩
  have hh := setSyn_held w2 w.heap.size (.int .i64 0) (.string ⟨#[]⟩) (.int .i64 0) (.int .i64 0) (.slice none 0 0) _ _ _ _ _ _ hR2
  obtain ⟨⟨q0, q1, q2, q3, q4⟩, _⟩ := own5 hh
  have hfin : PRes w (.err d x) (.returned (.tuple #[.agg #[.int .i64 0, .string ⟨#[]⟩, .int .i64 0, .int .i64 0, .slice none 0 0], .int .i64 d, .int .i64 (x : Nat)])) (setSyn w2 w.heap.size (.int .i64 0) (.string ⟨#[]⟩) (.int .i64 0) (.int .i64 0) (.slice none 0 0)) :=
    ⟨setSyn_below hB2 _ _ _ _ _, rfl⟩
  replace hfin := Lib.hid hfin
  clear hh hR2 hB2 b2 hz1 hsc
  go_wp2_with fail
  exact bodyPost_ret (v := .tuple #[.agg #[.int .i64 0, .string ⟨#[]⟩, .int .i64 0, .int .i64 0, .slice none 0 0], .int .i64 d, .int .i64 (x : Nat)]) (by simp [results, Tryz.results29, go_sem, q0, q1, q2, q3, q4]) rfl hfin.out
theorem xrParse_any (s : List UInt8) (o : Out Syn) (w : World) (hp : ∀ W, Below w.heap.size w W → Calls Tryz.prog 29 #[.string ⟨s.toArray⟩, .int .i64 0] W (PRes W o)) :
    Calls Tryz.prog 14 #[.string ⟨s.toArray⟩] w (PRes w o) := by
  have hB1 : Below w.heap.size w (w.alloc (.cells z5.toArray 26)) := (Below.refl _ _).alloc (Nat.le_refl _) _
  have hcall := hp _ hB1
  have hz := World.size_alloc w (.cells z5.toArray 26)
  have hn := heap_alloc_new w (.cells z5.toArray 26)
  replace hcall := Lib.hid hcall
  replace hB1 := Lib.hid hB1
  replace hz := Lib.hid hz
  replace hn := Lib.hid hn
  clear hp
  go_enter Tryz.func14, Tryz.ntmps14
  go_wp2_with fail
  cases o with
  | none =>
    (with_reducible refine (hcall.out).mono ?_); rintro e w2 ⟨_, hf⟩
    exact hf.elim
  | err p x =>
    (with_reducible refine (hcall.out).mono ?_); rintro e w2 ⟨b2, rfl⟩
    rw [hz.out] at b2
    have q4 := (b2.block w.heap.size (by omega)).trans hn.out
    have hsb : SynBlk w2 w.heap.size := ⟨_, _, _, _, _, _, q4⟩
    have hBz := setSyn_below (hB1.out.trans (b2.mono (Nat.le_succ _))) (.int .i64 0) (.string ⟨#[]⟩) (.int .i64 0) (.int .i64 0) (.slice none 0 0)
    have hh := setSyn_held w2 w.heap.size (.int .i64 0) (.string ⟨#[]⟩) (.int .i64 0) (.int .i64 0) (.slice none 0 0) _ _ _ _ _ _ q4
    obtain ⟨⟨s0, s1, s2, s3, s4⟩, _⟩ := own5 hh
    replace hBz := Lib.hid hBz
    clear hh q4 b2 hcall
    go_wp21
    exact bodyPost_ret (v := .tuple #[.agg #[.int .i64 0, .string ⟨#[]⟩, .int .i64 0, .int .i64 0, .slice none 0 0], .int .i64 p, .int .i64 (x : Nat)]) (by simp [results, Tryz.results14, go_sem, s0, s1, s2, s3, s4]) rfl ⟨hBz.out, rfl⟩
  | ok t j =>
    (with_reducible refine (hcall.out).mono ?_); rintro e w2 ⟨b2, v, rfl, kv, rfl, hk⟩
    obtain ⟨g, m, cp, rfl⟩ := hk.shape
    cases t with
    | mk k tx n a kids =>
    simp only [Syn.kind, Syn.text, Syn.num, Syn.pos, Syn.kids] at hk ⊢
    rw [hz.out] at b2 hk
    have q4 := (b2.block w.heap.size (by omega)).trans hn.out
    have hsb : SynBlk w2 w.heap.size := ⟨_, _, _, _, _, _, q4⟩
    have hBz := setSyn_below (hB1.out.trans (b2.mono (Nat.le_succ _))) (.int .i64 k) (.string ⟨tx.toArray⟩) (.int .i64 n) (.int .i64 a) (.slice g m cp)
    have hh := setSyn_held w2 w.heap.size (.int .i64 k) (.string ⟨tx.toArray⟩) (.int .i64 n) (.int .i64 a) (.slice g m cp) _ _ _ _ _ _ q4
    have hkz : KidsAt (Fr w.heap.size) (setSyn w2 w.heap.size (.int .i64 k) (.string ⟨tx.toArray⟩) (.int .i64 n) (.int .i64 a) (.slice g m cp)) kids (.slice g m cp) :=
      KidsAt.keep (S := Fr (w.heap.size + 1)) (fun k' (hk' : w.heap.size + 1 ≤ k') _ => heap_setSyn_ne (by omega)) (fun k' (hk' : w.heap.size + 1 ≤ k') => show w.heap.size ≤ k' by omega) hk
    obtain ⟨⟨s0, s1, s2, s3, s4⟩, _⟩ := own5 hh
    replace hBz := Lib.hid hBz
    replace hkz := Lib.hid hkz
    clear hh q4 b2 hcall hk
    go_wp21
    exact bodyPost_ret (v := .tuple #[.agg #[.int .i64 k, .string ⟨tx.toArray⟩, .int .i64 n, .int .i64 a, .slice g m cp], .int .i64 0, .int .i64 0]) (by simp [results, Tryz.results14, go_sem, s0, s1, s2, s3, s4]) rfl ⟨hBz.out, _, rfl, ⟨_, rfl, hkz.out⟩⟩
theorem xrCond_any (s : List UInt8) (o : Out Syn) (w : World) (hp : ∀ W, Below w.heap.size w W → Calls Tryz.prog 29 #[.string ⟨s.toArray⟩, .int .i64 1] W (PRes W o)) :
    Calls Tryz.prog 17 #[.string ⟨s.toArray⟩] w (PRes w o) := by
  have hB1 : Below w.heap.size w (w.alloc (.cells z5.toArray 26)) := (Below.refl _ _).alloc (Nat.le_refl _) _
  have hcall := hp _ hB1
  have hz := World.size_alloc w (.cells z5.toArray 26)
  have hn := heap_alloc_new w (.cells z5.toArray 26)
  replace hcall := Lib.hid hcall
  replace hB1 := Lib.hid hB1
  replace hz := Lib.hid hz
  replace hn := Lib.hid hn
  clear hp
  go_enter Tryz.func17, Tryz.ntmps17
  go_wp2_with fail
  cases o with
  | none =>
    (with_reducible refine (hcall.out).mono ?_); rintro e w2 ⟨_, hf⟩
    exact hf.elim
  | err p x =>
    (with_reducible refine (hcall.out).mono ?_); rintro e w2 ⟨b2, rfl⟩
    rw [hz.out] at b2
    have q4 := (b2.block w.heap.size (by omega)).trans hn.out
    have hsb : SynBlk w2 w.heap.size := ⟨_, _, _, _, _, _, q4⟩
    have hBz := setSyn_below (hB1.out.trans (b2.mono (Nat.le_succ _))) (.int .i64 0) (.string ⟨#[]⟩) (.int .i64 0) (.int .i64 0) (.slice none 0 0)
    have hh := setSyn_held w2 w.heap.size (.int .i64 0) (.string ⟨#[]⟩) (.int .i64 0) (.int .i64 0) (.slice none 0 0) _ _ _ _ _ _ q4
    obtain ⟨⟨s0, s1, s2, s3, s4⟩, _⟩ := own5 hh
    replace hBz := Lib.hid hBz
    clear hh q4 b2 hcall
    go_wp21
    exact bodyPost_ret (v := .tuple #[.agg #[.int .i64 0, .string ⟨#[]⟩, .int .i64 0, .int .i64 0, .slice none 0 0], .int .i64 p, .int .i64 (x : Nat)]) (by simp [results, Tryz.results17, go_sem, s0, s1, s2, s3, s4]) rfl ⟨hBz.out, rfl⟩
  | ok t j =>
    (with_reducible refine (hcall.out).mono ?_); rintro e w2 ⟨b2, v, rfl, kv, rfl, hk⟩
    obtain ⟨g, m, cp, rfl⟩ := hk.shape
    cases t with
    | mk k tx n a kids =>
    simp only [Syn.kind, Syn.text, Syn.num, Syn.pos, Syn.kids] at hk ⊢
    rw [hz.out] at b2 hk
    have q4 := (b2.block w.heap.size (by omega)).trans hn.out
    have hsb : SynBlk w2 w.heap.size := ⟨_, _, _, _, _, _, q4⟩
    have hBz := setSyn_below (hB1.out.trans (b2.mono (Nat.le_succ _))) (.int .i64 k) (.string ⟨tx.toArray⟩) (.int .i64 n) (.int .i64 a) (.slice g m cp)
    have hh := setSyn_held w2 w.heap.size (.int .i64 k) (.string ⟨tx.toArray⟩) (.int .i64 n) (.int .i64 a) (.slice g m cp) _ _ _ _ _ _ q4
    have hkz : KidsAt (Fr w.heap.size) (setSyn w2 w.heap.size (.int .i64 k) (.string ⟨tx.toArray⟩) (.int .i64 n) (.int .i64 a) (.slice g m cp)) kids (.slice g m cp) :=
      KidsAt.keep (S := Fr (w.heap.size + 1)) (fun k' (hk' : w.heap.size + 1 ≤ k') _ => heap_setSyn_ne (by omega)) (fun k' (hk' : w.heap.size + 1 ≤ k') => show w.heap.size ≤ k' by omega) hk
    obtain ⟨⟨s0, s1, s2, s3, s4⟩, _⟩ := own5 hh
    replace hBz := Lib.hid hBz
    replace hkz := Lib.hid hkz
    clear hh q4 b2 hcall hk
    go_wp21
    exact bodyPost_ret (v := .tuple #[.agg #[.int .i64 k, .string ⟨tx.toArray⟩, .int .i64 n, .int .i64 a, .slice g m cp], .int .i64 0, .int .i64 0]) (by simp [results, Tryz.results17, go_sem, s0, s1, s2, s3, s4]) rfl ⟨hBz.out, _, rfl, ⟨_, rfl, hkz.out⟩⟩
theorem xrScheme_any (s : List UInt8) (o : Out Syn) (w : World) (hp : ∀ W, Below w.heap.size w W → Calls Tryz.prog 29 #[.string ⟨s.toArray⟩, .int .i64 2] W (PRes W o)) :
    Calls Tryz.prog 19 #[.string ⟨s.toArray⟩] w (PRes w o) := by
  have hB1 : Below w.heap.size w (w.alloc (.cells z5.toArray 26)) := (Below.refl _ _).alloc (Nat.le_refl _) _
  have hcall := hp _ hB1
  have hz := World.size_alloc w (.cells z5.toArray 26)
  have hn := heap_alloc_new w (.cells z5.toArray 26)
  replace hcall := Lib.hid hcall
  replace hB1 := Lib.hid hB1
  replace hz := Lib.hid hz
  replace hn := Lib.hid hn
  clear hp
  go_enter Tryz.func19, Tryz.ntmps19
  go_wp2_with fail
  cases o with
  | none =>
    (with_reducible refine (hcall.out).mono ?_); rintro e w2 ⟨_, hf⟩
    exact hf.elim
  | err p x =>
    (with_reducible refine (hcall.out).mono ?_); rintro e w2 ⟨b2, rfl⟩
    rw [hz.out] at b2
    have q4 := (b2.block w.heap.size (by omega)).trans hn.out
    have hsb : SynBlk w2 w.heap.size := ⟨_, _, _, _, _, _, q4⟩
    have hBz := setSyn_below (hB1.out.trans (b2.mono (Nat.le_succ _))) (.int .i64 0) (.string ⟨#[]⟩) (.int .i64 0) (.int .i64 0) (.slice none 0 0)
    have hh := setSyn_held w2 w.heap.size (.int .i64 0) (.string ⟨#[]⟩) (.int .i64 0) (.int .i64 0) (.slice none 0 0) _ _ _ _ _ _ q4
    obtain ⟨⟨s0, s1, s2, s3, s4⟩, _⟩ := own5 hh
    replace hBz := Lib.hid hBz
    clear hh q4 b2 hcall
    go_wp21
    exact bodyPost_ret (v := .tuple #[.agg #[.int .i64 0, .string ⟨#[]⟩, .int .i64 0, .int .i64 0, .slice none 0 0], .int .i64 p, .int .i64 (x : Nat)]) (by simp [results, Tryz.results19, go_sem, s0, s1, s2, s3, s4]) rfl ⟨hBz.out, rfl⟩
  | ok t j =>
    (with_reducible refine (hcall.out).mono ?_); rintro e w2 ⟨b2, v, rfl, kv, rfl, hk⟩
    obtain ⟨g, m, cp, rfl⟩ := hk.shape
    cases t with
    | mk k tx n a kids =>
    simp only [Syn.kind, Syn.text, Syn.num, Syn.pos, Syn.kids] at hk ⊢
    rw [hz.out] at b2 hk
    have q4 := (b2.block w.heap.size (by omega)).trans hn.out
    have hsb : SynBlk w2 w.heap.size := ⟨_, _, _, _, _, _, q4⟩
    have hBz := setSyn_below (hB1.out.trans (b2.mono (Nat.le_succ _))) (.int .i64 k) (.string ⟨tx.toArray⟩) (.int .i64 n) (.int .i64 a) (.slice g m cp)
    have hh := setSyn_held w2 w.heap.size (.int .i64 k) (.string ⟨tx.toArray⟩) (.int .i64 n) (.int .i64 a) (.slice g m cp) _ _ _ _ _ _ q4
    have hkz : KidsAt (Fr w.heap.size) (setSyn w2 w.heap.size (.int .i64 k) (.string ⟨tx.toArray⟩) (.int .i64 n) (.int .i64 a) (.slice g m cp)) kids (.slice g m cp) :=
      KidsAt.keep (S := Fr (w.heap.size + 1)) (fun k' (hk' : w.heap.size + 1 ≤ k') _ => heap_setSyn_ne (by omega)) (fun k' (hk' : w.heap.size + 1 ≤ k') => show w.heap.size ≤ k' by omega) hk
    obtain ⟨⟨s0, s1, s2, s3, s4⟩, _⟩ := own5 hh
    replace hBz := Lib.hid hBz
    replace hkz := Lib.hid hkz
    clear hh q4 b2 hcall hk
    go_wp21
    exact bodyPost_ret (v := .tuple #[.agg #[.int .i64 k, .string ⟨tx.toArray⟩, .int .i64 n, .int .i64 a, .slice g m cp], .int .i64 0, .int .i64 0]) (by simp [results, Tryz.results19, go_sem, s0, s1, s2, s3, s4]) rfl ⟨hBz.out, _, rfl, ⟨_, rfl, hkz.out⟩⟩
theorem xrFormula_any (s : List UInt8) (o : Out Syn) (w : World) (hp : ∀ W, Below w.heap.size w W → Calls Tryz.prog 29 #[.string ⟨s.toArray⟩, .int .i64 3] W (PRes W o)) :
    Calls Tryz.prog 21 #[.string ⟨s.toArray⟩] w (PRes w o) := by
  have hB1 : Below w.heap.size w (w.alloc (.cells z5.toArray 26)) := (Below.refl _ _).alloc (Nat.le_refl _) _
  have hcall := hp _ hB1
  have hz := World.size_alloc w (.cells z5.toArray 26)
  have hn := heap_alloc_new w (.cells z5.toArray 26)
  replace hcall := Lib.hid hcall
  replace hB1 := Lib.hid hB1
  replace hz := Lib.hid hz
  replace hn := Lib.hid hn
  clear hp
  go_enter Tryz.func21, Tryz.ntmps21
  go_wp2_with fail
  cases o with
  | none =>
    (with_reducible refine (hcall.out).mono ?_); rintro e w2 ⟨_, hf⟩
    exact hf.elim
  | err p x =>
    (with_reducible refine (hcall.out).mono ?_); rintro e w2 ⟨b2, rfl⟩
    rw [hz.out] at b2
    have q4 := (b2.block w.heap.size (by omega)).trans hn.out
    have hsb : SynBlk w2 w.heap.size := ⟨_, _, _, _, _, _, q4⟩
    have hBz := setSyn_below (hB1.out.trans (b2.mono (Nat.le_succ _))) (.int .i64 0) (.string ⟨#[]⟩) (.int .i64 0) (.int .i64 0) (.slice none 0 0)
    have hh := setSyn_held w2 w.heap.size (.int .i64 0) (.string ⟨#[]⟩) (.int .i64 0) (.int .i64 0) (.slice none 0 0) _ _ _ _ _ _ q4
    obtain ⟨⟨s0, s1, s2, s3, s4⟩, _⟩ := own5 hh
    replace hBz := Lib.hid hBz
    clear hh q4 b2 hcall
    go_wp21
    exact bodyPost_ret (v := .tuple #[.agg #[.int .i64 0, .string ⟨#[]⟩, .int .i64 0, .int .i64 0, .slice none 0 0], .int .i64 p, .int .i64 (x : Nat)]) (by simp [results, Tryz.results21, go_sem, s0, s1, s2, s3, s4]) rfl ⟨hBz.out, rfl⟩
  | ok t j =>
    (with_reducible refine (hcall.out).mono ?_); rintro e w2 ⟨b2, v, rfl, kv, rfl, hk⟩
    obtain ⟨g, m, cp, rfl⟩ := hk.shape
    cases t with
    | mk k tx n a kids =>
    simp only [Syn.kind, Syn.text, Syn.num, Syn.pos, Syn.kids] at hk ⊢
    rw [hz.out] at b2 hk
    have q4 := (b2.block w.heap.size (by omega)).trans hn.out
    have hsb : SynBlk w2 w.heap.size := ⟨_, _, _, _, _, _, q4⟩
    have hBz := setSyn_below (hB1.out.trans (b2.mono (Nat.le_succ _))) (.int .i64 k) (.string ⟨tx.toArray⟩) (.int .i64 n) (.int .i64 a) (.slice g m cp)
    have hh := setSyn_held w2 w.heap.size (.int .i64 k) (.string ⟨tx.toArray⟩) (.int .i64 n) (.int .i64 a) (.slice g m cp) _ _ _ _ _ _ q4
    have hkz : KidsAt (Fr w.heap.size) (setSyn w2 w.heap.size (.int .i64 k) (.string ⟨tx.toArray⟩) (.int .i64 n) (.int .i64 a) (.slice g m cp)) kids (.slice g m cp) :=
      KidsAt.keep (S := Fr (w.heap.size + 1)) (fun k' (hk' : w.heap.size + 1 ≤ k') _ => heap_setSyn_ne (by omega)) (fun k' (hk' : w.heap.size + 1 ≤ k') => show w.heap.size ≤ k' by omega) hk
    obtain ⟨⟨s0, s1, s2, s3, s4⟩, _⟩ := own5 hh
    replace hBz := Lib.hid hBz
    replace hkz := Lib.hid hkz
    clear hh q4 b2 hcall hk
    go_wp21
    exact bodyPost_ret (v := .tuple #[.agg #[.int .i64 k, .string ⟨tx.toArray⟩, .int .i64 n, .int .i64 a, .slice g m cp], .int .i64 0, .int .i64 0]) (by simp [results, Tryz.results21, go_sem, s0, s1, s2, s3, s4]) rfl ⟨hBz.out, _, rfl, ⟨_, rfl, hkz.out⟩⟩
end Go.Proofs.YtekccolabhfopaaGreatDoor
end
