/- Joined: Ful, AwkP, Awk. -/
import Derived.Test.YtekccolabhfopaaGreatDoorJ24
import Derived.Test.YtekccolabhfopaaGreatDoorJ35
import Derived.Test.YtekccolabhfopaaGreatDoorJ13
import Derived.Test.YtekccolabhfopaaGreatDoorJ25
set_option linter.unusedVariables false
set_option linter.unusedSimpArgs false
section
/- Walks: the exported functions of the parser and of its reference, for all short texts. -/
set_option maxHeartbeats 1000000
set_option maxRecDepth 100000
namespace Go.Proofs.YtekccolabhfopaaGreatDoor
open Go.RowKit
/-- What the parsers' walks ask of the package-level variables. -/
structure PEnv (w : World) : Prop where
  signs : SignsAt w
  space : SpaceAt w
theorem SignsAt.lt' {w : World} (h : SignsAt w) : 0 < w.heap.size := by
  obtain ⟨t, fr, h⟩ := h
  exact (Array.getElem?_eq_some_iff.1 h).1
theorem PEnv.below {w w' : World} (h : PEnv w) (hb : Below w.heap.size w w') : PEnv w' := ⟨h.signs.below hb h.signs.lt', h.space.below hb⟩
/-- Fuel that is enough. -/
def fuelOf (T : List Tok) : Nat := 16 * T.length + 5
def rdO (nt : NT) (T : List Tok) : Rd := rd reservedB T (fuelOf T) nt
def progR (T : List Tok) : Rd := program reservedB T (fuelOf T)
theorem words_reserved : Words reservedB := by
  intro w hw
  simp only [List.mem_cons, List.not_mem_nil, or_false] at hw
  rcases hw with rfl | rfl | rfl | rfl | rfl | rfl | rfl | rfl | rfl | rfl | rfl <;> kernel_rfl
theorem rdO_nn {s : List UInt8} {T : List Tok} (h : Scanned s T) (nt : NT) (lv i : Nat) (hi : i < T.length) : rdO nt T lv i ≠ .none :=
  rd_nn h.ok.last _ nt lv i hi (by
    unfold fuelOf
    have : rank nt ≤ 5 := (by cases nt <;> decide)
    omega)
theorem parseO_nn (s : List UInt8) (r : List Tok → Rd) (hr : ∀ T, Scanned s T → r T 0 0 ≠ .none) : parseO s r ≠ .none := by
  unfold parseO
  split
  · intro h; cases h
  · rename_i T hT
    exact whole_nn (hr T (scanned hT))
theorem progR_nn {s : List UInt8} {T : List Tok} (h : Scanned s T) : progR T 0 0 ≠ .none :=
  program_nn h.ok.last (fun nt j hj => rdO_nn h nt 0 j hj) h.pos
theorem fullParse_any (s : List UInt8) (w : World) (hs : s.length ≤ 90000) (he : PEnv w) : Calls Tryz.prog 13 #[.string ⟨s.toArray⟩] w (PRes w (parseO s progR)) := by
  refine xParse_any s _ w fun W hb => ?_
  have hE := he.below hb
  unfold parseO
  split
  · rename_i d x hT
    exact pparse_err s 28 d x W (by omega) hE.signs hE.signs.lt'  hT (by have := scan_err hT; omega)
  · rename_i T hT
    have hS := scanned hT
    have hl := hS.len
    exact pparse_ok s 28 _ T W (by omega) hE.signs hE.signs.lt' hE.space hT (fun t ht hk => by obtain ⟨a, b, c⟩ := hS.num t ht hk; exact ⟨a, b, c, by have := hS.txt t ht; omega⟩) (by omega) hS.pos hS.ok.last (fun _ _ => rfl)
      (fun pb tb c => pprog_any pb tb c T (fuelOf T) 0 (by decide)) (whole_nn (progR_nn hS))
theorem rfullParse_any (s : List UInt8) (w : World) (hs : s.length ≤ 90000) : Calls Tryz.prog 14 #[.string ⟨s.toArray⟩] w (PRes w (parseO s progR)) := by
  refine xrParse_any s _ w fun W hb => ?_
  unfold parseO
  split
  · rename_i d x hT
    exact rread_err s 0 d x W (by omega) (by have := scan_err hT; omega) hT
  · rename_i T hT
    have hS := scanned hT
    have hl := hS.len
    exact rread_0 s (mProgram reservedB T (fuelOf T + 2)) T W _ (by omega) hT (by omega) hS.pos hS.ok.last (fun t ht => by have := hS.txt t ht; omega) (fun pb tb c W s o h hl hm => rprog_rd pb tb c T _ W s o h hl hm) (whole_nn (progR_nn hS)) (whole_rel hS.pos (program_rel hS.ok words_reserved))
theorem fullCond_any (s : List UInt8) (w : World) (hs : s.length ≤ 90000) (he : PEnv w) : Calls Tryz.prog 16 #[.string ⟨s.toArray⟩] w (PRes w (parseO s (rdO .cond))) := by
  refine xCond_any s _ w fun W hb => ?_
  have hE := he.below hb
  unfold parseO
  split
  · rename_i d x hT
    exact pparse_err s 30 d x W (by omega) hE.signs hE.signs.lt'  hT (by have := scan_err hT; omega)
  · rename_i T hT
    have hS := scanned hT
    have hl := hS.len
    exact pparse_ok s 30 _ T W (by omega) hE.signs hE.signs.lt' hE.space hT (fun t ht hk => by obtain ⟨a, b, c⟩ := hS.num t ht hk; exact ⟨a, b, c, by have := hS.txt t ht; omega⟩) (by omega) hS.pos hS.ok.last (fun _ _ => rfl)
      (fun pb tb c => prd_any pb tb c T (fuelOf T) .cond 0 (by decide)) (whole_nn (rdO_nn hS .cond 0 0 hS.pos))
theorem rfullCond_any (s : List UInt8) (w : World) (hs : s.length ≤ 90000) : Calls Tryz.prog 17 #[.string ⟨s.toArray⟩] w (PRes w (parseO s (rdO .cond))) := by
  refine xrCond_any s _ w fun W hb => ?_
  unfold parseO
  split
  · rename_i d x hT
    exact rread_err s 1 d x W (by omega) (by have := scan_err hT; omega) hT
  · rename_i T hT
    have hS := scanned hT
    have hl := hS.len
    exact rread_1 s (mrd reservedB T (fuelOf T + 2) .cond) T W _ (by omega) hT (by omega) hS.pos hS.ok.last (fun t ht => by have := hS.txt t ht; omega) (fun pb tb c W s o h hl hm => (rcond_rd pb tb c T _).call W s o.1 o.2 h hl hm) (whole_nn (rdO_nn hS .cond 0 0 hS.pos)) (whole_rel hS.pos (rd_rel hS.ok words_reserved _ .cond))
theorem fullScheme_any (s : List UInt8) (w : World) (hs : s.length ≤ 90000) (he : PEnv w) : Calls Tryz.prog 18 #[.string ⟨s.toArray⟩] w (PRes w (parseO s (rdO .scheme))) := by
  refine xScheme_any s _ w fun W hb => ?_
  have hE := he.below hb
  unfold parseO
  split
  · rename_i d x hT
    exact pparse_err s 31 d x W (by omega) hE.signs hE.signs.lt'  hT (by have := scan_err hT; omega)
  · rename_i T hT
    have hS := scanned hT
    have hl := hS.len
    exact pparse_ok s 31 _ T W (by omega) hE.signs hE.signs.lt' hE.space hT (fun t ht hk => by obtain ⟨a, b, c⟩ := hS.num t ht hk; exact ⟨a, b, c, by have := hS.txt t ht; omega⟩) (by omega) hS.pos hS.ok.last (fun _ _ => rfl)
      (fun pb tb c => prd_any pb tb c T (fuelOf T) .scheme 0 (by decide)) (whole_nn (rdO_nn hS .scheme 0 0 hS.pos))
theorem rfullScheme_any (s : List UInt8) (w : World) (hs : s.length ≤ 90000) : Calls Tryz.prog 19 #[.string ⟨s.toArray⟩] w (PRes w (parseO s (rdO .scheme))) := by
  refine xrScheme_any s _ w fun W hb => ?_
  unfold parseO
  split
  · rename_i d x hT
    exact rread_err s 2 d x W (by omega) (by have := scan_err hT; omega) hT
  · rename_i T hT
    have hS := scanned hT
    have hl := hS.len
    exact rread_2 s (mrd reservedB T (fuelOf T + 2) .scheme) T W _ (by omega) hT (by omega) hS.pos hS.ok.last (fun t ht => by have := hS.txt t ht; omega) (fun pb tb c W s o h hl hm => (rsch_rd pb tb c T _).call W s o.1 o.2 h hl hm) (whole_nn (rdO_nn hS .scheme 0 0 hS.pos)) (whole_rel hS.pos (rd_rel hS.ok words_reserved _ .scheme))
theorem fullFormula_any (s : List UInt8) (w : World) (hs : s.length ≤ 90000) (he : PEnv w) : Calls Tryz.prog 20 #[.string ⟨s.toArray⟩] w (PRes w (parseO s (rdO .formula))) := by
  refine xFormula_any s _ w fun W hb => ?_
  have hE := he.below hb
  unfold parseO
  split
  · rename_i d x hT
    exact pparse_err s 32 d x W (by omega) hE.signs hE.signs.lt'  hT (by have := scan_err hT; omega)
  · rename_i T hT
    have hS := scanned hT
    have hl := hS.len
    exact pparse_ok s 32 _ T W (by omega) hE.signs hE.signs.lt' hE.space hT (fun t ht hk => by obtain ⟨a, b, c⟩ := hS.num t ht hk; exact ⟨a, b, c, by have := hS.txt t ht; omega⟩) (by omega) hS.pos hS.ok.last (fun _ _ => rfl)
      (fun pb tb c => prd_any pb tb c T (fuelOf T) .formula 0 (by decide)) (whole_nn (rdO_nn hS .formula 0 0 hS.pos))
theorem rfullFormula_any (s : List UInt8) (w : World) (hs : s.length ≤ 90000) : Calls Tryz.prog 21 #[.string ⟨s.toArray⟩] w (PRes w (parseO s (rdO .formula))) := by
  refine xrFormula_any s _ w fun W hb => ?_
  unfold parseO
  split
  · rename_i d x hT
    exact rread_err s 3 d x W (by omega) (by have := scan_err hT; omega) hT
  · rename_i T hT
    have hS := scanned hT
    have hl := hS.len
    exact rread_3 s (mrd reservedB T (fuelOf T + 2) .formula) T W _ (by omega) hT (by omega) hS.pos hS.ok.last (fun t ht => by have := hS.txt t ht; omega) (fun pb tb c W s o h hl hm => (rfor_rd pb tb c T _).call W s o.1 o.2 h hl hm) (whole_nn (rdO_nn hS .formula 0 0 hS.pos)) (whole_rel hS.pos (rd_rel hS.ok words_reserved _ .formula))
end Go.Proofs.YtekccolabhfopaaGreatDoor
end
section
/- Plain facts: the examples of the chapter on the parser; no program in sight. -/
namespace Go.Proofs.YtekccolabhfopaaGreatDoor
theorem awk1 : parseO [97, 108, 108, 32, 112, 58, 32, 105, 110, 40, 112, 41, 32, 61, 32, 48, 32, 111, 114, 32, 112, 32, 60, 32, 50] (rdO .cond) = .ok (.mk 13 [97, 108, 108] 0 0 [(.mk 8 [112] 0 4 []), (.mk 11 [111, 114] 0 7 [(.mk 11 [61] 0 7 [(.mk 10 [105, 110] 0 7 [(.mk 8 [112] 0 10 [])]), (.mk 9 [] 0 15 [])]), (.mk 11 [60] 0 20 [(.mk 8 [112] 0 20 []), (.mk 9 [] 2 24 [])])])]) 13 := by kernel_rfl
theorem awk2 : parseO [97, 32, 111, 114, 32, 98, 32, 97, 110, 100, 32, 99, 114, 97, 115, 104, 40, 49, 41, 32, 116, 104, 101, 110, 32, 50, 32, 99] (rdO .scheme) = .ok (.mk 11 [111, 114] 0 0 [(.mk 8 [97] 0 0 []), (.mk 11 [97, 110, 100] 0 5 [(.mk 8 [98] 0 5 []), (.mk 11 [116, 104, 101, 110] 2 11 [(.mk 10 [99, 114, 97, 115, 104] 0 11 [(.mk 9 [] 1 17 [])]), (.mk 8 [99] 0 27 [])])])]) 11 := by kernel_rfl
theorem awk3 : parseO [75, 40, 48, 44, 32, 97, 116, 40, 49, 41, 41, 32, 117, 110, 116, 105, 108, 32, 116, 114, 117, 101] (rdO .formula) = .ok (.mk 11 [117, 110, 116, 105, 108] 0 0 [(.mk 10 [75] 0 0 [(.mk 9 [] 0 2 []), (.mk 10 [97, 116] 0 5 [(.mk 9 [] 1 8 [])])]), (.mk 10 [116, 114, 117, 101] 0 18 [])]) 11 := by kernel_rfl
theorem awk4 : parseO [75, 40, 48, 41] (rdO .formula) = .err 3 4 := by kernel_rfl
theorem awk5 : parseO [112, 114, 111, 99, 101, 115, 115, 101, 115, 32, 50, 59] progR = .ok (.mk 0 [] 2 0 []) 3 := by kernel_rfl
end Go.Proofs.YtekccolabhfopaaGreatDoor
end
section
/- Walks: awake of the statements about the parser. -/
set_option maxHeartbeats 4000000
set_option maxRecDepth 100000
namespace Go.Proofs.YtekccolabhfopaaGreatDoor
open Go.RowKit
theorem kid_at {S : Nat → Prop} {w : World} {l : List Syn} {p : Option Addr} {m c : Nat} (h : KidsAt S w l (.slice p m c)) (i : Nat) (hi : i < l.length) {kd n a : Int} {tx : List UInt8} {kids : List Syn} (e : l[i] = .mk kd tx n a kids) : ∃ g q d, p = some (⟨g, 0, none⟩ : Addr) ∧ KidsAt S w kids (.slice q kids.length d) ∧
    (w.cell? ⟨g, i * 5, none⟩ = some (.int .i64 kd) ∧ w.cell? ⟨g, i * 5 + 1, none⟩ = some (.string ⟨List.toArray tx⟩) ∧ w.cell? ⟨g, i * 5 + 2, none⟩ = some (.int .i64 n) ∧ w.cell? ⟨g, i * 5 + 3, none⟩ = some (.int .i64 a) ∧ w.cell? ⟨g, i * 5 + 4, none⟩ = some (.slice q kids.length d)) := by
  obtain ⟨g, kd', tx', n', a', kids', q, u, d, hp, e', hk, hc⟩ := kids_get h i hi
  rw [e] at e'
  injection e' with e1 e2 e3 e4 e5
  subst e1 e2 e3 e4 e5
  obtain ⟨q', d', e6, _⟩ := kids_form hk
  injection e6 with e7 e8 e9
  subst e8
  exact ⟨g, q, d, hp, hk, hc⟩
theorem awake08_any (w : World) (he : PEnv w) : Calls Tryz.prog 12 #[] w fun e w' => e = .returned (.bool true) ∧ Below w.heap.size w w' := by
  have E := Lib.hid he
  have B := Lib.hid (Below.refl w.heap.size w)
  clear he
  go_enter Tryz.func12, Tryz.ntmps12
  go_wp2_with fail
  refine (fullCond_any [97, 108, 108, 32, 112, 58, 32, 105, 110, 40, 112, 41, 32, 61, 32, 48, 32, 111, 114, 32, 112, 32, 60, 32, 50] w (by decide) E.out).mono ?_
  rw [awk1]
  rintro e w1 ⟨b1, v, rfl, kv, rfl, hk⟩
  replace E := Lib.hid (E.out.below b1)
  replace B := Lib.hid (B.out.trans (b1.mono B.out.size))
  simp only [Syn.kind, Syn.text, Syn.num, Syn.pos, Syn.kids] at hk ⊢
  obtain ⟨p, c, rfl, -⟩ := kids_form hk
  go_upto_region 2 with (fail)
  replace hk := kids_below hk ((Below.refl w1.heap.size w1).alloc (Nat.le_refl _) (.cells #[.int .i64 13, .string ⟨List.toArray [97, 108, 108]⟩, .int .i64 0, .int .i64 0, .slice p 2 c] 26))
  have bA : Below w1.heap.size w1 (w1.alloc (.cells #[.int .i64 13, .string ⟨List.toArray [97, 108, 108]⟩, .int .i64 0, .int .i64 0, .slice p 2 c] 26)) := (Below.refl w1.heap.size w1).alloc (Nat.le_refl _) _
  replace E := Lib.hid (E.out.below bA)
  replace B := Lib.hid (B.out.trans (bA.mono B.out.size))
  have hn := heap_alloc_new w1 (.cells #[.int .i64 13, .string ⟨List.toArray [97, 108, 108]⟩, .int .i64 0, .int .i64 0, .slice p 2 c] 26)
  clear bA b1
  generalize World.alloc w1 _ = w2 at hk E B hn ⊢
  generalize w1.heap.size = N1 at hn ⊢
  obtain ⟨⟨x0, x1, x2, x3, x4⟩, -⟩ := own5 hn
  clear w1
  obtain ⟨g, q, d, rfl, -, -, -, -, c3, -⟩ := kid_at hk 0 (by decide) rfl
  obtain ⟨g', q', d', e', hk2, k0, k1, k2, k3, k4⟩ := kid_at hk 1 (by decide) rfl
  have e'' : g = g' := by simpa using e'
  subst e''
  obtain ⟨g2, q2, d2, rfl, -, z0, z1, z2, z3, z4⟩ := kid_at hk2 1 (by decide) rfl
  clear hk hk2 e' hn
  simp only [Nat.reduceMul, Nat.reduceAdd] at c3 k0 k1 k2 k3 k4 z0 z1 z2 z3 z4
  go_upto_region 4 with (fail)
  clear c3 k0 k1 k2 k3 k4 z0 z1 z2 z3 z4 x0 x1 x2 x3 x4
  go_wp2_with fail
  refine (fullScheme_any [97, 32, 111, 114, 32, 98, 32, 97, 110, 100, 32, 99, 114, 97, 115, 104, 40, 49, 41, 32, 116, 104, 101, 110, 32, 50, 32, 99] _ (by decide) E.out).mono ?_
  rw [awk2]
  rintro e w1 ⟨b1, v, rfl, kv, rfl, hk⟩
  replace E := Lib.hid (E.out.below b1)
  replace B := Lib.hid (B.out.trans (b1.mono B.out.size))
  simp only [Syn.kind, Syn.text, Syn.num, Syn.pos, Syn.kids] at hk ⊢
  obtain ⟨p, c, rfl, -⟩ := kids_form hk
  go_upto_region 5 with (fail)
  replace hk := kids_below hk ((Below.refl w1.heap.size w1).alloc (Nat.le_refl _) (.cells #[.int .i64 11, .string ⟨List.toArray [111, 114]⟩, .int .i64 0, .int .i64 0, .slice p 2 c] 26))
  have bA : Below w1.heap.size w1 (w1.alloc (.cells #[.int .i64 11, .string ⟨List.toArray [111, 114]⟩, .int .i64 0, .int .i64 0, .slice p 2 c] 26)) := (Below.refl w1.heap.size w1).alloc (Nat.le_refl _) _
  replace E := Lib.hid (E.out.below bA)
  replace B := Lib.hid (B.out.trans (bA.mono B.out.size))
  have hn := heap_alloc_new w1 (.cells #[.int .i64 11, .string ⟨List.toArray [111, 114]⟩, .int .i64 0, .int .i64 0, .slice p 2 c] 26)
  clear bA b1
  generalize World.alloc w1 _ = w2 at hk E B hn ⊢
  generalize w1.heap.size = N2 at hn ⊢
  obtain ⟨⟨x0, x1, x2, x3, x4⟩, -⟩ := own5 hn
  clear w1
  obtain ⟨g, q, d, rfl, hk2, k0, k1, k2, k3, k4⟩ := kid_at hk 1 (by decide) rfl
  obtain ⟨g2, q2, d2, rfl, -, z0, z1, z2, z3, z4⟩ := kid_at hk2 1 (by decide) rfl
  clear hk hk2 hn
  simp only [Nat.reduceMul, Nat.reduceAdd] at k0 k1 k2 k3 k4 z0 z1 z2 z3 z4
  go_upto_region 7 with (fail)
  clear k0 k1 k2 k3 k4 z0 z1 z2 z3 z4 x0 x1 x2 x3 x4
  go_wp2_with fail
  refine (fullFormula_any [75, 40, 48, 44, 32, 97, 116, 40, 49, 41, 41, 32, 117, 110, 116, 105, 108, 32, 116, 114, 117, 101] _ (by decide) E.out).mono ?_
  rw [awk3]
  rintro e w1 ⟨b1, v, rfl, kv, rfl, hk⟩
  replace E := Lib.hid (E.out.below b1)
  replace B := Lib.hid (B.out.trans (b1.mono B.out.size))
  simp only [Syn.kind, Syn.text, Syn.num, Syn.pos, Syn.kids] at hk ⊢
  obtain ⟨p, c, rfl, -⟩ := kids_form hk
  go_upto_region 8 with (fail)
  replace hk := kids_below hk ((Below.refl w1.heap.size w1).alloc (Nat.le_refl _) (.cells #[.int .i64 11, .string ⟨List.toArray [117, 110, 116, 105, 108]⟩, .int .i64 0, .int .i64 0, .slice p 2 c] 26))
  have bA : Below w1.heap.size w1 (w1.alloc (.cells #[.int .i64 11, .string ⟨List.toArray [117, 110, 116, 105, 108]⟩, .int .i64 0, .int .i64 0, .slice p 2 c] 26)) := (Below.refl w1.heap.size w1).alloc (Nat.le_refl _) _
  replace E := Lib.hid (E.out.below bA)
  replace B := Lib.hid (B.out.trans (bA.mono B.out.size))
  have hn := heap_alloc_new w1 (.cells #[.int .i64 11, .string ⟨List.toArray [117, 110, 116, 105, 108]⟩, .int .i64 0, .int .i64 0, .slice p 2 c] 26)
  clear bA b1
  generalize World.alloc w1 _ = w2 at hk E B hn ⊢
  generalize w1.heap.size = N3 at hn ⊢
  obtain ⟨⟨x0, x1, x2, x3, x4⟩, -⟩ := own5 hn
  clear w1
  clear hk x0 x1 x2 x3 x4
  have hn3 := hn
  clear hn
  replace hn3 := Lib.hid hn3
  go_wp2_with fail
  refine (fullFormula_any [75, 40, 48, 41] w2 (by decide) E.out).mono ?_
  rw [awk4]
  rintro e w3 ⟨b3, rfl⟩
  replace E := Lib.hid (E.out.below b3)
  replace B := Lib.hid (B.out.trans (b3.mono B.out.size))
  replace hn3 := Lib.hid ((b3.block _ (Array.getElem?_eq_some_iff.1 hn3.out).1).trans hn3.out)
  clear b3
  go_upto_region 9 with (fail)
  have bA : Below w3.heap.size w3 (w3.alloc (.cells #[.int .i64 0, .string ⟨#[]⟩, .int .i64 0, .int .i64 0, .slice none 0 0] 26)) := (Below.refl w3.heap.size w3).alloc (Nat.le_refl _) _
  replace E := Lib.hid (E.out.below bA)
  replace B := Lib.hid (B.out.trans (bA.mono B.out.size))
  replace hn3 := Lib.hid ((bA.block _ (Array.getElem?_eq_some_iff.1 hn3.out).1).trans hn3.out)
  clear bA
  generalize World.alloc w3 _ = w4 at E B hn3 ⊢
  go_wp2_with fail
  refine (fullParse_any [112, 114, 111, 99, 101, 115, 115, 101, 115, 32, 50, 59] w4 (by decide) E.out).mono ?_
  rw [awk5]
  rintro e w1 ⟨b1, v, rfl, kv, rfl, hk⟩
  replace hn3 := Lib.hid ((b1.block _ (Array.getElem?_eq_some_iff.1 hn3.out).1).trans hn3.out)
  replace B := Lib.hid (B.out.trans (b1.mono B.out.size))
  simp only [Syn.kind, Syn.text, Syn.num, Syn.pos, Syn.kids] at hk ⊢
  obtain ⟨p, c, rfl, -⟩ := kids_form hk
  go_upto_region 10 with (fail)
  have bA : Below w1.heap.size w1 (w1.alloc (.cells #[.int .i64 0, .string ⟨#[]⟩, .int .i64 2, .int .i64 0, .slice p 0 c] 26)) := (Below.refl w1.heap.size w1).alloc (Nat.le_refl _) _
  replace B := Lib.hid (B.out.trans (bA.mono B.out.size))
  replace hn3 := Lib.hid ((bA.block _ (Array.getElem?_eq_some_iff.1 hn3.out).1).trans hn3.out)
  have hn := heap_alloc_new w1 (.cells #[.int .i64 0, .string ⟨#[]⟩, .int .i64 2, .int .i64 0, .slice p 0 c] 26)
  clear bA b1 hk
  generalize World.alloc w1 _ = w2' at B hn hn3 ⊢
  generalize w1.heap.size = N5 at hn ⊢
  obtain ⟨⟨x0, x1, x2, x3, x4⟩, -⟩ := own5 hn
  obtain ⟨⟨y0, y1, y2, y3, y4⟩, -⟩ := own5 hn3.out
  clear hn
  go_wp2_with fail
  exact bodyPost_ret (v := .bool true) (by simp [results, Tryz.results12, go_sem]) rfl ⟨rfl, B.out⟩
end Go.Proofs.YtekccolabhfopaaGreatDoor
end
