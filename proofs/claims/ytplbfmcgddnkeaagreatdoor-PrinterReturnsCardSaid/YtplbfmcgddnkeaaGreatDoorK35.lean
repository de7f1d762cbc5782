/- Joined: ParX, Ful, Tre. -/
import Derived.Test.YtplbfmcgddnkeaaGreatDoorK34
import Derived.Test.YtplbfmcgddnkeaaGreatDoorK16
import Derived.Test.YtplbfmcgddnkeaaGreatDoorK02
set_option linter.unusedVariables false
set_option linter.unusedSimpArgs false
section
set_option maxHeartbeats 1000000
set_option maxRecDepth 100000
namespace Go.Proofs.YtplbfmcgddnkeaaGreatDoor
open Go.RowKit
theorem setSyn_below {w W : World} (h : Below w.heap.size w W) (v0 v1 v2 v3 v4 : Value) : Below w.heap.size w (setSyn W w.heap.size v0 v1 v2 v3 v4) :=
  ⟨(setSyn_os W _ _ _ _ _ _).1.trans h.os, (setSyn_os W _ _ _ _ _ _).2.1.trans h.tape, (setSyn_os W _ _ _ _ _ _).2.2.trans h.output, by rw [setSyn_size]; exact h.size, fun k hk => (heap_setSyn_ne (by omega)).trans (h.block k hk)⟩
theorem xParse_any (s : List UInt8) (o : Out Syn) (w : World) (hp : ∀ W, Below w.heap.size w W → Calls Tryz.prog 33 #[.string ⟨s.toArray⟩, .func (.func 34) #[] #[]] W (PRes W o)) :
    Calls Tryz.prog 19 #[.string ⟨s.toArray⟩] w (PRes w o) := by
  have hB1 : Below w.heap.size w (w.alloc (.cells z5.toArray 24)) := (Below.refl _ _).alloc (Nat.le_refl _) _
  have hcall := hp _ hB1
  have hz := World.size_alloc w (.cells z5.toArray 24)
  have hn := heap_alloc_new w (.cells z5.toArray 24)
  replace hcall := Lib.hid hcall
  replace hB1 := Lib.hid hB1
  replace hz := Lib.hid hz
  replace hn := Lib.hid hn
  clear hp
  go_enter Tryz.func19, Tryz.ntmps19
  go_wp2_with fail
  cases o with
  | none =>
    (with_reducible refine (hcall.out).mono ?_); rintro e w2 ⟨_, hf⟩
    exact hf.elim
  | err p x =>
    (with_reducible refine (hcall.out).mono ?_); rintro e w2 ⟨b2, rfl⟩
    rw [hz.out] at b2
    have q4 := (b2.block w.heap.size (by omega)).trans hn.out
    have hsb : SynBlk w2 w.heap.size := ⟨_, _, _, _, _, _, q4⟩
    have hBz := setSyn_below (hB1.out.trans (b2.mono (Nat.le_succ _))) (.int .i64 0) (.string ⟨#[]⟩) (.int .i64 0) (.int .i64 0) (.slice none 0 0)
    have hh := setSyn_held w2 w.heap.size (.int .i64 0) (.string ⟨#[]⟩) (.int .i64 0) (.int .i64 0) (.slice none 0 0) _ _ _ _ _ _ q4
    obtain ⟨⟨s0, s1, s2, s3, s4⟩, _⟩ := own5 hh
    replace hBz := Lib.hid hBz
    clear hh q4 b2 hcall
    go_wp21
    exact bodyPost_ret (v := .tuple #[.agg #[.int .i64 0, .string ⟨#[]⟩, .int .i64 0, .int .i64 0, .slice none 0 0], .int .i64 p, .int .i64 (x : Nat)]) (by simp [results, Tryz.results19, go_sem, s0, s1, s2, s3, s4]) rfl ⟨hBz.out, rfl⟩
  | ok t j =>
    (with_reducible refine (hcall.out).mono ?_); rintro e w2 ⟨b2, v, rfl, kv, rfl, hk⟩
    obtain ⟨g, m, cp, rfl⟩ := hk.shape
    cases t with
    | mk k tx n a kids =>
    simp only [Syn.kind, Syn.text, Syn.num, Syn.pos, Syn.kids] at hk ⊢
    rw [hz.out] at b2 hk
    have q4 := (b2.block w.heap.size (by omega)).trans hn.out
    have hsb : SynBlk w2 w.heap.size := ⟨_, _, _, _, _, _, q4⟩
    have hBz := setSyn_below (hB1.out.trans (b2.mono (Nat.le_succ _))) (.int .i64 k) (.string ⟨tx.toArray⟩) (.int .i64 n) (.int .i64 a) (.slice g m cp)
    have hh := setSyn_held w2 w.heap.size (.int .i64 k) (.string ⟨tx.toArray⟩) (.int .i64 n) (.int .i64 a) (.slice g m cp) _ _ _ _ _ _ q4
    have hkz : KidsAt (Fr w.heap.size) (setSyn w2 w.heap.size (.int .i64 k) (.string ⟨tx.toArray⟩) (.int .i64 n) (.int .i64 a) (.slice g m cp)) kids (.slice g m cp) :=
      KidsAt.keep (S := Fr (w.heap.size + 1)) (fun k' (hk' : w.heap.size + 1 ≤ k') _ => heap_setSyn_ne (by omega)) (fun k' (hk' : w.heap.size + 1 ≤ k') => show w.heap.size ≤ k' by omega) hk
    obtain ⟨⟨s0, s1, s2, s3, s4⟩, _⟩ := own5 hh
    replace hBz := Lib.hid hBz
    replace hkz := Lib.hid hkz
    clear hh q4 b2 hcall hk
    go_wp21
    exact bodyPost_ret (v := .tuple #[.agg #[.int .i64 k, .string ⟨tx.toArray⟩, .int .i64 n, .int .i64 a, .slice g m cp], .int .i64 0, .int .i64 0]) (by simp [results, Tryz.results19, go_sem, s0, s1, s2, s3, s4]) rfl ⟨hBz.out, _, rfl, ⟨_, rfl, hkz.out⟩⟩
theorem xCond_any (s : List UInt8) (o : Out Syn) (w : World) (hp : ∀ W, Below w.heap.size w W → Calls Tryz.prog 33 #[.string ⟨s.toArray⟩, .func (.func 35) #[] #[]] W (PRes W o)) :
    Calls Tryz.prog 20 #[.string ⟨s.toArray⟩] w (PRes w o) := by
  have hB1 : Below w.heap.size w (w.alloc (.cells z5.toArray 24)) := (Below.refl _ _).alloc (Nat.le_refl _) _
  have hcall := hp _ hB1
  have hz := World.size_alloc w (.cells z5.toArray 24)
  have hn := heap_alloc_new w (.cells z5.toArray 24)
  replace hcall := Lib.hid hcall
  replace hB1 := Lib.hid hB1
  replace hz := Lib.hid hz
  replace hn := Lib.hid hn
  clear hp
  go_enter Tryz.func20, Tryz.ntmps20
  go_wp2_with fail
  cases o with
  | none =>
    (with_reducible refine (hcall.out).mono ?_); rintro e w2 ⟨_, hf⟩
    exact hf.elim
  | err p x =>
    (with_reducible refine (hcall.out).mono ?_); rintro e w2 ⟨b2, rfl⟩
    rw [hz.out] at b2
    have q4 := (b2.block w.heap.size (by omega)).trans hn.out
    have hsb : SynBlk w2 w.heap.size := ⟨_, _, _, _, _, _, q4⟩
    have hBz := setSyn_below (hB1.out.trans (b2.mono (Nat.le_succ _))) (.int .i64 0) (.string ⟨#[]⟩) (.int .i64 0) (.int .i64 0) (.slice none 0 0)
    have hh := setSyn_held w2 w.heap.size (.int .i64 0) (.string ⟨#[]⟩) (.int .i64 0) (.int .i64 0) (.slice none 0 0) _ _ _ _ _ _ q4
    obtain ⟨⟨s0, s1, s2, s3, s4⟩, _⟩ := own5 hh
    replace hBz := Lib.hid hBz
    clear hh q4 b2 hcall
    go_wp21
    exact bodyPost_ret (v := .tuple #[.agg #[.int .i64 0, .string ⟨#[]⟩, .int .i64 0, .int .i64 0, .slice none 0 0], .int .i64 p, .int .i64 (x : Nat)]) (by simp [results, Tryz.results20, go_sem, s0, s1, s2, s3, s4]) rfl ⟨hBz.out, rfl⟩
  | ok t j =>
    (with_reducible refine (hcall.out).mono ?_); rintro e w2 ⟨b2, v, rfl, kv, rfl, hk⟩
    obtain ⟨g, m, cp, rfl⟩ := hk.shape
    cases t with
    | mk k tx n a kids =>
    simp only [Syn.kind, Syn.text, Syn.num, Syn.pos, Syn.kids] at hk ⊢
    rw [hz.out] at b2 hk
    have q4 := (b2.block w.heap.size (by omega)).trans hn.out
    have hsb : SynBlk w2 w.heap.size := ⟨_, _, _, _, _, _, q4⟩
    have hBz := setSyn_below (hB1.out.trans (b2.mono (Nat.le_succ _))) (.int .i64 k) (.string ⟨tx.toArray⟩) (.int .i64 n) (.int .i64 a) (.slice g m cp)
    have hh := setSyn_held w2 w.heap.size (.int .i64 k) (.string ⟨tx.toArray⟩) (.int .i64 n) (.int .i64 a) (.slice g m cp) _ _ _ _ _ _ q4
    have hkz : KidsAt (Fr w.heap.size) (setSyn w2 w.heap.size (.int .i64 k) (.string ⟨tx.toArray⟩) (.int .i64 n) (.int .i64 a) (.slice g m cp)) kids (.slice g m cp) :=
      KidsAt.keep (S := Fr (w.heap.size + 1)) (fun k' (hk' : w.heap.size + 1 ≤ k') _ => heap_setSyn_ne (by omega)) (fun k' (hk' : w.heap.size + 1 ≤ k') => show w.heap.size ≤ k' by omega) hk
    obtain ⟨⟨s0, s1, s2, s3, s4⟩, _⟩ := own5 hh
    replace hBz := Lib.hid hBz
    replace hkz := Lib.hid hkz
    clear hh q4 b2 hcall hk
    go_wp21
    exact bodyPost_ret (v := .tuple #[.agg #[.int .i64 k, .string ⟨tx.toArray⟩, .int .i64 n, .int .i64 a, .slice g m cp], .int .i64 0, .int .i64 0]) (by simp [results, Tryz.results20, go_sem, s0, s1, s2, s3, s4]) rfl ⟨hBz.out, _, rfl, ⟨_, rfl, hkz.out⟩⟩
theorem xScheme_any (s : List UInt8) (o : Out Syn) (w : World) (hp : ∀ W, Below w.heap.size w W → Calls Tryz.prog 33 #[.string ⟨s.toArray⟩, .func (.func 36) #[] #[]] W (PRes W o)) :
    Calls Tryz.prog 21 #[.string ⟨s.toArray⟩] w (PRes w o) := by
  have hB1 : Below w.heap.size w (w.alloc (.cells z5.toArray 24)) := (Below.refl _ _).alloc (Nat.le_refl _) _
  have hcall := hp _ hB1
  have hz := World.size_alloc w (.cells z5.toArray 24)
  have hn := heap_alloc_new w (.cells z5.toArray 24)
  replace hcall := Lib.hid hcall
  replace hB1 := Lib.hid hB1
  replace hz := Lib.hid hz
  replace hn := Lib.hid hn
  clear hp
  go_enter Tryz.func21, Tryz.ntmps21
  go_wp2_with fail
  cases o with
  | none =>
    (with_reducible refine (hcall.out).mono ?_); rintro e w2 ⟨_, hf⟩
    exact hf.elim
  | err p x =>
    (with_reducible refine (hcall.out).mono ?_); rintro e w2 ⟨b2, rfl⟩
    rw [hz.out] at b2
    have q4 := (b2.block w.heap.size (by omega)).trans hn.out
    have hsb : SynBlk w2 w.heap.size := ⟨_, _, _, _, _, _, q4⟩
    have hBz := setSyn_below (hB1.out.trans (b2.mono (Nat.le_succ _))) (.int .i64 0) (.string ⟨#[]⟩) (.int .i64 0) (.int .i64 0) (.slice none 0 0)
    have hh := setSyn_held w2 w.heap.size (.int .i64 0) (.string ⟨#[]⟩) (.int .i64 0) (.int .i64 0) (.slice none 0 0) _ _ _ _ _ _ q4
    obtain ⟨⟨s0, s1, s2, s3, s4⟩, _⟩ := own5 hh
    replace hBz := Lib.hid hBz
    clear hh q4 b2 hcall
    go_wp21
    exact bodyPost_ret (v := .tuple #[.agg #[.int .i64 0, .string ⟨#[]⟩, .int .i64 0, .int .i64 0, .slice none 0 0], .int .i64 p, .int .i64 (x : Nat)]) (by simp [results, Tryz.results21, go_sem, s0, s1, s2, s3, s4]) rfl ⟨hBz.out, rfl⟩
  | ok t j =>
    (with_reducible refine (hcall.out).mono ?_); rintro e w2 ⟨b2, v, rfl, kv, rfl, hk⟩
    obtain ⟨g, m, cp, rfl⟩ := hk.shape
    cases t with
    | mk k tx n a kids =>
    simp only [Syn.kind, Syn.text, Syn.num, Syn.pos, Syn.kids] at hk ⊢
    rw [hz.out] at b2 hk
    have q4 := (b2.block w.heap.size (by omega)).trans hn.out
    have hsb : SynBlk w2 w.heap.size := ⟨_, _, _, _, _, _, q4⟩
    have hBz := setSyn_below (hB1.out.trans (b2.mono (Nat.le_succ _))) (.int .i64 k) (.string ⟨tx.toArray⟩) (.int .i64 n) (.int .i64 a) (.slice g m cp)
    have hh := setSyn_held w2 w.heap.size (.int .i64 k) (.string ⟨tx.toArray⟩) (.int .i64 n) (.int .i64 a) (.slice g m cp) _ _ _ _ _ _ q4
    have hkz : KidsAt (Fr w.heap.size) (setSyn w2 w.heap.size (.int .i64 k) (.string ⟨tx.toArray⟩) (.int .i64 n) (.int .i64 a) (.slice g m cp)) kids (.slice g m cp) :=
      KidsAt.keep (S := Fr (w.heap.size + 1)) (fun k' (hk' : w.heap.size + 1 ≤ k') _ => heap_setSyn_ne (by omega)) (fun k' (hk' : w.heap.size + 1 ≤ k') => show w.heap.size ≤ k' by omega) hk
    obtain ⟨⟨s0, s1, s2, s3, s4⟩, _⟩ := own5 hh
    replace hBz := Lib.hid hBz
    replace hkz := Lib.hid hkz
    clear hh q4 b2 hcall hk
    go_wp21
    exact bodyPost_ret (v := .tuple #[.agg #[.int .i64 k, .string ⟨tx.toArray⟩, .int .i64 n, .int .i64 a, .slice g m cp], .int .i64 0, .int .i64 0]) (by simp [results, Tryz.results21, go_sem, s0, s1, s2, s3, s4]) rfl ⟨hBz.out, _, rfl, ⟨_, rfl, hkz.out⟩⟩
theorem xFormula_any (s : List UInt8) (o : Out Syn) (w : World) (hp : ∀ W, Below w.heap.size w W → Calls Tryz.prog 33 #[.string ⟨s.toArray⟩, .func (.func 37) #[] #[]] W (PRes W o)) :
    Calls Tryz.prog 22 #[.string ⟨s.toArray⟩] w (PRes w o) := by
  have hB1 : Below w.heap.size w (w.alloc (.cells z5.toArray 24)) := (Below.refl _ _).alloc (Nat.le_refl _) _
  have hcall := hp _ hB1
  have hz := World.size_alloc w (.cells z5.toArray 24)
  have hn := heap_alloc_new w (.cells z5.toArray 24)
  replace hcall := Lib.hid hcall
  replace hB1 := Lib.hid hB1
  replace hz := Lib.hid hz
  replace hn := Lib.hid hn
  clear hp
  go_enter Tryz.func22, Tryz.ntmps22
  go_wp2_with fail
  cases o with
  | none =>
    (with_reducible refine (hcall.out).mono ?_); rintro e w2 ⟨_, hf⟩
    exact hf.elim
  | err p x =>
    (with_reducible refine (hcall.out).mono ?_); rintro e w2 ⟨b2, rfl⟩
    rw [hz.out] at b2
    have q4 := (b2.block w.heap.size (by omega)).trans hn.out
    have hsb : SynBlk w2 w.heap.size := ⟨_, _, _, _, _, _, q4⟩
    have hBz := setSyn_below (hB1.out.trans (b2.mono (Nat.le_succ _))) (.int .i64 0) (.string ⟨#[]⟩) (.int .i64 0) (.int .i64 0) (.slice none 0 0)
    have hh := setSyn_held w2 w.heap.size (.int .i64 0) (.string ⟨#[]⟩) (.int .i64 0) (.int .i64 0) (.slice none 0 0) _ _ _ _ _ _ q4
    obtain ⟨⟨s0, s1, s2, s3, s4⟩, _⟩ := own5 hh
    replace hBz := Lib.hid hBz
    clear hh q4 b2 hcall
    go_wp21
    exact bodyPost_ret (v := .tuple #[.agg #[.int .i64 0, .string ⟨#[]⟩, .int .i64 0, .int .i64 0, .slice none 0 0], .int .i64 p, .int .i64 (x : Nat)]) (by simp [results, Tryz.results22, go_sem, s0, s1, s2, s3, s4]) rfl ⟨hBz.out, rfl⟩
  | ok t j =>
    (with_reducible refine (hcall.out).mono ?_); rintro e w2 ⟨b2, v, rfl, kv, rfl, hk⟩
    obtain ⟨g, m, cp, rfl⟩ := hk.shape
    cases t with
    | mk k tx n a kids =>
    simp only [Syn.kind, Syn.text, Syn.num, Syn.pos, Syn.kids] at hk ⊢
    rw [hz.out] at b2 hk
    have q4 := (b2.block w.heap.size (by omega)).trans hn.out
    have hsb : SynBlk w2 w.heap.size := ⟨_, _, _, _, _, _, q4⟩
    have hBz := setSyn_below (hB1.out.trans (b2.mono (Nat.le_succ _))) (.int .i64 k) (.string ⟨tx.toArray⟩) (.int .i64 n) (.int .i64 a) (.slice g m cp)
    have hh := setSyn_held w2 w.heap.size (.int .i64 k) (.string ⟨tx.toArray⟩) (.int .i64 n) (.int .i64 a) (.slice g m cp) _ _ _ _ _ _ q4
    have hkz : KidsAt (Fr w.heap.size) (setSyn w2 w.heap.size (.int .i64 k) (.string ⟨tx.toArray⟩) (.int .i64 n) (.int .i64 a) (.slice g m cp)) kids (.slice g m cp) :=
      KidsAt.keep (S := Fr (w.heap.size + 1)) (fun k' (hk' : w.heap.size + 1 ≤ k') _ => heap_setSyn_ne (by omega)) (fun k' (hk' : w.heap.size + 1 ≤ k') => show w.heap.size ≤ k' by omega) hk
    obtain ⟨⟨s0, s1, s2, s3, s4⟩, _⟩ := own5 hh
    replace hBz := Lib.hid hBz
    replace hkz := Lib.hid hkz
    clear hh q4 b2 hcall hk
    go_wp21
    exact bodyPost_ret (v := .tuple #[.agg #[.int .i64 k, .string ⟨tx.toArray⟩, .int .i64 n, .int .i64 a, .slice g m cp], .int .i64 0, .int .i64 0]) (by simp [results, Tryz.results22, go_sem, s0, s1, s2, s3, s4]) rfl ⟨hBz.out, _, rfl, ⟨_, rfl, hkz.out⟩⟩
def parseO (s : List UInt8) (r : List Tok → Rd) : Out Syn := match scan s with
  | .error (d, x) => .err d x
  | .ok T => whole T (r T)
end Go.Proofs.YtplbfmcgddnkeaaGreatDoor
end
section
set_option maxHeartbeats 1000000
set_option maxRecDepth 100000
namespace Go.Proofs.YtplbfmcgddnkeaaGreatDoor
open Go.RowKit
structure PEnv (w : World) : Prop where
  signs : SignsAt w
  space : SpaceAt w
theorem SignsAt.lt' {w : World} (h : SignsAt w) : 0 < w.heap.size := by
  obtain ⟨t, fr, h⟩ := h
  exact (Array.getElem?_eq_some_iff.1 h).1
theorem PEnv.below {w w' : World} (h : PEnv w) (hb : Below w.heap.size w w') : PEnv w' := ⟨h.signs.below hb h.signs.lt', h.space.below hb⟩
def fuelOf (T : List Tok) : Nat := 16 * T.length + 5
def rdO (nt : NT) (T : List Tok) : Rd := rd reservedB T (fuelOf T) nt
def progR (T : List Tok) : Rd := program reservedB T (fuelOf T)
theorem rdO_nn {s : List UInt8} {T : List Tok} (h : Scanned s T) (nt : NT) (lv i : Nat) (hi : i < T.length) : rdO nt T lv i ≠ .none :=
  rd_nn h.ok.last _ nt lv i hi (by
    unfold fuelOf
    have : rank nt ≤ 5 := (by cases nt <;> decide)
    omega)
theorem parseO_nn (s : List UInt8) (r : List Tok → Rd) (hr : ∀ T, Scanned s T → r T 0 0 ≠ .none) : parseO s r ≠ .none := by
  unfold parseO
  split
  · intro h; cases h
  · rename_i T hT
    exact whole_nn (hr T (scanned hT))
theorem progR_nn {s : List UInt8} {T : List Tok} (h : Scanned s T) : progR T 0 0 ≠ .none :=
  program_nn h.ok.last (fun nt j hj => rdO_nn h nt 0 j hj) h.pos
theorem fullParse_any (s : List UInt8) (w : World) (hs : s.length ≤ 90000) (he : PEnv w) : Calls Tryz.prog 19 #[.string ⟨s.toArray⟩] w (PRes w (parseO s progR)) := by
  refine xParse_any s _ w fun W hb => ?_
  have hE := he.below hb
  unfold parseO
  split
  · rename_i d x hT
    exact pparse_err s 34 d x W (by omega) hE.signs hE.signs.lt'  hT (by have := scan_err hT; omega)
  · rename_i T hT
    have hS := scanned hT
    have hl := hS.len
    exact pparse_ok s 34 _ T W (by omega) hE.signs hE.signs.lt' hE.space hT (fun t ht hk => by obtain ⟨a, b, c⟩ := hS.num t ht hk; exact ⟨a, b, c, by have := hS.txt t ht; omega⟩) (by omega) hS.pos hS.ok.last (fun _ _ => rfl)
      (fun pb tb c => pprog_any pb tb c T (fuelOf T) 0 (by decide)) (whole_nn (progR_nn hS))
theorem fullCond_any (s : List UInt8) (w : World) (hs : s.length ≤ 90000) (he : PEnv w) : Calls Tryz.prog 20 #[.string ⟨s.toArray⟩] w (PRes w (parseO s (rdO .cond))) := by
  refine xCond_any s _ w fun W hb => ?_
  have hE := he.below hb
  unfold parseO
  split
  · rename_i d x hT
    exact pparse_err s 35 d x W (by omega) hE.signs hE.signs.lt'  hT (by have := scan_err hT; omega)
  · rename_i T hT
    have hS := scanned hT
    have hl := hS.len
    exact pparse_ok s 35 _ T W (by omega) hE.signs hE.signs.lt' hE.space hT (fun t ht hk => by obtain ⟨a, b, c⟩ := hS.num t ht hk; exact ⟨a, b, c, by have := hS.txt t ht; omega⟩) (by omega) hS.pos hS.ok.last (fun _ _ => rfl)
      (fun pb tb c => prd_any pb tb c T (fuelOf T) .cond 0 (by decide)) (whole_nn (rdO_nn hS .cond 0 0 hS.pos))
theorem fullScheme_any (s : List UInt8) (w : World) (hs : s.length ≤ 90000) (he : PEnv w) : Calls Tryz.prog 21 #[.string ⟨s.toArray⟩] w (PRes w (parseO s (rdO .scheme))) := by
  refine xScheme_any s _ w fun W hb => ?_
  have hE := he.below hb
  unfold parseO
  split
  · rename_i d x hT
    exact pparse_err s 36 d x W (by omega) hE.signs hE.signs.lt'  hT (by have := scan_err hT; omega)
  · rename_i T hT
    have hS := scanned hT
    have hl := hS.len
    exact pparse_ok s 36 _ T W (by omega) hE.signs hE.signs.lt' hE.space hT (fun t ht hk => by obtain ⟨a, b, c⟩ := hS.num t ht hk; exact ⟨a, b, c, by have := hS.txt t ht; omega⟩) (by omega) hS.pos hS.ok.last (fun _ _ => rfl)
      (fun pb tb c => prd_any pb tb c T (fuelOf T) .scheme 0 (by decide)) (whole_nn (rdO_nn hS .scheme 0 0 hS.pos))
theorem fullFormula_any (s : List UInt8) (w : World) (hs : s.length ≤ 90000) (he : PEnv w) : Calls Tryz.prog 22 #[.string ⟨s.toArray⟩] w (PRes w (parseO s (rdO .formula))) := by
  refine xFormula_any s _ w fun W hb => ?_
  have hE := he.below hb
  unfold parseO
  split
  · rename_i d x hT
    exact pparse_err s 37 d x W (by omega) hE.signs hE.signs.lt'  hT (by have := scan_err hT; omega)
  · rename_i T hT
    have hS := scanned hT
    have hl := hS.len
    exact pparse_ok s 37 _ T W (by omega) hE.signs hE.signs.lt' hE.space hT (fun t ht hk => by obtain ⟨a, b, c⟩ := hS.num t ht hk; exact ⟨a, b, c, by have := hS.txt t ht; omega⟩) (by omega) hS.pos hS.ok.last (fun _ _ => rfl)
      (fun pb tb c => prd_any pb tb c T (fuelOf T) .formula 0 (by decide)) (whole_nn (rdO_nn hS .formula 0 0 hS.pos))
end Go.Proofs.YtplbfmcgddnkeaaGreatDoor
end
section
set_option maxHeartbeats 1000000
set_option maxRecDepth 100000
namespace Go.Proofs.YtplbfmcgddnkeaaGreatDoor
open Go.RowKit
theorem RowAt.get {S : Nat → Prop} {w : World} : ∀ {l : List Syn} {cs : List Value}, RowAt S w l cs → ∀ i (h : i < l.length), ∃ kd tx n a kids v, l[i] = .mk kd tx n a kids ∧ KidsAt S w kids v ∧
    (cs[i * 5]? = some (.int .i64 kd) ∧ cs[i * 5 + 1]? = some (.string ⟨List.toArray tx⟩) ∧ cs[i * 5 + 2]? = some (.int .i64 n) ∧ cs[i * 5 + 3]? = some (.int .i64 a) ∧ cs[i * 5 + 4]? = some v)
  | _, _, .nil, i, h => absurd h (Nat.not_lt_zero _)
  | _, _, .cons (t := t) (cs := cs) (ds := ds) ht hr, 0, _ => by
    cases ht with
    | mk hk => exact ⟨_, _, _, _, _, _, rfl, hk, rfl, rfl, rfl, rfl, rfl⟩
  | _, _, .cons (t := t) (cs := cs) (ds := ds) ht hr, i + 1, h => by
    obtain ⟨kd, tx, n, a, kids, v, e, hk, c0, c1, c2, c3, c4⟩ := hr.get i (by simpa using h)
    cases ht with
    | mk hk' =>
      have e5 : ∀ (q0 q1 q2 q3 q4 : Value) j, (q0 :: q1 :: q2 :: q3 :: q4 :: ds)[(i + 1) * 5 + j]? = ds[i * 5 + j]? := fun q0 q1 q2 q3 q4 j => by
        rw [show (i + 1) * 5 + j = (i * 5 + j) + 5 from by omega]; rfl
      exact ⟨kd, tx, n, a, kids, v, e, hk, (e5 _ _ _ _ _ 0).trans c0, (e5 _ _ _ _ _ 1).trans c1, (e5 _ _ _ _ _ 2).trans c2, (e5 _ _ _ _ _ 3).trans c3, (e5 _ _ _ _ _ 4).trans c4⟩
theorem kids_form {S : Nat → Prop} {w : World} {l : List Syn} {v : Value} (h : KidsAt S w l v) : ∃ (p : Option Addr) (c : Nat), v = Value.slice p l.length c ∧ ∀ (i : Nat) (h : i < l.length), ∃ g kd tx n a kids u, p = some (⟨g, 0, none⟩ : Addr) ∧ l[i] = .mk kd tx n a kids ∧ KidsAt S w kids u ∧
    (w.cell? ⟨g, i * 5, none⟩ = some (.int .i64 kd) ∧ w.cell? ⟨g, i * 5 + 1, none⟩ = some (.string ⟨List.toArray tx⟩) ∧ w.cell? ⟨g, i * 5 + 2, none⟩ = some (.int .i64 n) ∧ w.cell? ⟨g, i * 5 + 3, none⟩ = some (.int .i64 a) ∧ w.cell? ⟨g, i * 5 + 4, none⟩ = some u) := by
  cases h with
  | none => exact ⟨none, 0, rfl, fun i h => absurd h (Nat.not_lt_zero _)⟩
  | @some _ b c cur fr hb hp hr hcp =>
    refine ⟨_, c, rfl, fun i hi => ?_⟩
    obtain ⟨kd, tx, n, a, kids, u, e, hk, c0, c1, c2, c3, c4⟩ := hr.get i hi
    have hc : ∀ j x, (cur.toList.take (l.length * 5))[j]? = some x → w.cell? ⟨b, j, none⟩ = some x := fun j x hx => by
      rw [cell_of_row w b j cur _ _ hb]
      have hlt : j < l.length * 5 := by
        rcases Nat.lt_or_ge j (l.length * 5) with h | h
        · exact h
        · rw [List.getElem?_eq_none (by rw [List.length_take]; omega)] at hx; cases hx
      rw [List.getElem?_take_of_lt hlt] at hx
      simpa using hx
    exact ⟨b, kd, tx, n, a, kids, u, rfl, e, hk, hc _ _ c0, hc _ _ c1, hc _ _ c2, hc _ _ c3, hc _ _ c4⟩
end Go.Proofs.YtplbfmcgddnkeaaGreatDoor
end
