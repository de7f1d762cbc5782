/- Joined: PlainR, Emv. -/
import Derived.Lib.IndexAny
import Derived.Test.YtekccolabhfopaaGreatDoorJ36
import Derived.Test.YtekccolabhfopaaGreatDoorJ44
import Derived.Test.YtekccolabhfopaaGreatDoorJ37
import Derived.Test.YtekccolabhfopaaGreatDoorJ41
set_option linter.unusedVariables false
set_option linter.unusedSimpArgs false
section
/- Plain facts: what the parser's functions make of a program around a condition, a scheme and a formula, and of parentheses. -/
namespace Go.Proofs.YtekccolabhfopaaGreatDoor
theorem reads_of {nt : NT} {s : List UInt8} {x : Syn} {j : Nat} (h : parseO s (rdO nt) = .ok x j) (hn : (35 : UInt8) ∉ s) : ∃ T C, scan s = .ok T ∧ Reads reservedB nt s x T C (fuelOf T) j := by
  unfold parseO at h
  cases hT : scan s with
  | error e => rw [hT] at h; cases h
  | ok T =>
    rw [hT] at h
    obtain ⟨C, hC, ht⟩ := scan_toks hT
    exact ⟨T, C, rfl, by rw [← hC]; exact lx_scan hT, hC, ht, hn, h⟩
theorem emb_parse {c s f : List UInt8} {x y z : Syn} {jx jy jz : Nat} (hl : c.length + s.length + f.length ≤ 900) (nc : (35 : UInt8) ∉ c) (ns : (35 : UInt8) ∉ s) (nf : (35 : UInt8) ∉ f)
    (hx : parseO c (rdO .cond) = .ok x jx) (hy : parseO s (rdO .scheme) = .ok y jy) (hz : parseO f (rdO .formula) = .ok z jz) :
    (embText c s f).length ≤ 2000 ∧ ∃ t j, parseO (embText c s f) progR = .ok t j ∧ Emb x y z t := by
  obtain ⟨Tc, C, _, rc⟩ := reads_of hx nc
  obtain ⟨Ts, S, _, rs⟩ := reads_of hy ns
  obtain ⟨Tf, F, _, rf⟩ := reads_of hz nf
  have hlen : (embText c s f).length ≤ 2000 := by
    unfold embText
    simp only [List.length_append, List.length_cons, embA, embB, embC, embD, embE, List.length_nil]
    omega
  obtain ⟨U, hU, hK⟩ := scan_lx (lx_emb rc.lx rs.lx rf.lx nc ns nf) (by omega)
  have hlU : U.length = _ := (kts_len U).symm.trans (congrArg List.length hK)
  have h1 := (kts_len Tc).symm.trans (congrArg List.length rc.kt)
  have h2 := (kts_len Ts).symm.trans (congrArg List.length rs.kt)
  have h3 := (kts_len Tf).symm.trans (congrArg List.length rf.kt)
  simp only [List.length_append, List.length_cons, List.length_nil, ktA, ktC, ktD, ktE] at hlU h1 h2 h3
  obtain ⟨t, j, ht, he⟩ := emb_program (fu := fuelOf U) (by kernel_rfl) (by kernel_rfl) (by kernel_rfl) (by kernel_rfl) rc.kt rs.kt rf.kt rc.tk rs.tk rf.tk hK (by unfold fuelOf; omega) (by unfold fuelOf; omega) (by unfold fuelOf; omega) rc.rd rs.rd rf.rd
  exact ⟨hlen, t, j, by unfold parseO; rw [hU]; exact ht, he⟩
/-- A tree like x, or too deep. -/
def LikeO (x : Syn) (o : Out Syn) : Prop := match o with | .ok y _ => Twin Any x y | .err _ e => e = 12 | .none => False
theorem DO.like {x : Syn} {L : Nat} {o : Out Syn} (h : DO x L o) : LikeO x o := by
  cases o with
  | none => exact h
  | err p e => exact h
  | ok y l => exact h.2
def parA (s : List UInt8) : List UInt8 := 40 :: 40 :: (s ++ [41, 32, 41])
def parB (s : List UInt8) : List UInt8 := [110, 111, 116] ++ 32 :: 40 :: (s ++ 41 :: 32 :: ([97, 110, 100] ++ 32 :: ([49] ++ 32 :: ([60] ++ 32 :: 40 :: (s ++ [41])))))
def parC (s : List UInt8) : List UInt8 := 40 :: (s ++ [41])
def parD (s : List UInt8) : List UInt8 := 40 :: 32 :: (s ++ [41])
section
variable {s : List UInt8} {x : Syn} {j : Nat}
theorem like_of {nt : NT} {t : List UInt8} {U : List Tok} {L f : Nat} (hU : scan t = .ok U) (hf : fuelOf U = f) (h : DO x L (whole U (rd reservedB U f nt))) : LikeO x (parseO t (rdO nt)) := by
  subst hf
  unfold parseO
  rw [hU]
  exact h.like
theorem paren_a (hl : s.length ≤ 600) (hn : (35 : UInt8) ∉ s) (hx : parseO s (rdO .cond) = .ok x j) : LikeO x (parseO (parA s) (rdO .cond)) := by
  obtain ⟨T, C, _, r⟩ := reads_of hx hn
  have hL : Lx (parA s) ((2, [40]) :: (2, [40]) :: (C ++ [(2, [41]), (2, [41]), ktEnd])) :=
    lx_sign (by simp) (lx_sign (by simp) (lx_cut sep41.1 sep41.2 hn r.lx (lx_sign (b := 41) (by simp) (lx_blank (b := 32) (by decide) (lx_sign (b := 41) (by simp) lx_nil)))))
  obtain ⟨U, hU, hK⟩ := scan_lx hL (by simp [parA]; omega)
  have hlU := (kts_len U).symm.trans (congrArg List.length hK)
  have h1 := (kts_len T).symm.trans (congrArg List.length r.kt)
  simp only [List.length_append, List.length_cons, List.length_nil] at hlU h1
  exact like_of hU (f := (fuelOf U - 10) + 10) (by unfold fuelOf; omega) (par_cond r hK (by unfold fuelOf; omega))
theorem paren_b (hl : s.length ≤ 600) (hn : (35 : UInt8) ∉ s) (hx : parseO s (rdO .cond) = .ok x j) : LikeO (.mk 11 kAnd 0 0 [.mk 12 [] 0 0 [x], .mk 11 [60] 0 0 [.mk 9 [] 1 0 [], x]]) (parseO (parB s) (rdO .cond)) := by
  obtain ⟨T, C, _, r⟩ := reads_of hx hn
  have b1 := sep32
  have hL : Lx (parB s) ((0, kNot) :: (2, [40]) :: (C ++ (2, [41]) :: (0, kAnd) :: (1, [49]) :: (2, [60]) :: (2, [40]) :: (C ++ [(2, [41]), ktEnd]))) := by
    have h1 := lx_sign (b := 40) (by simp) (lx_cut sep41.1 sep41.2 hn r.lx (lx_sign (b := 41) (by simp) lx_nil))
    have h2 := lx_tok (x := [60]) (k := 2) (by rfl) (fits_sep b1.1 b1.2.1) (lx_blank b1.2.2 h1)
    have h3 := lx_tok (x := [49]) (k := 1) (by rfl) (fits_sep b1.1 b1.2.1) (lx_blank b1.2.2 h2)
    have h4 := lx_tok (x := [97, 110, 100]) (k := 0) (by rfl) (fits_sep b1.1 b1.2.1) (lx_blank b1.2.2 h3)
    have h5 := lx_sign (b := 40) (by simp) (lx_cut sep41.1 sep41.2 hn r.lx (lx_sign (b := 41) (by simp) (lx_blank b1.2.2 h4)))
    exact lx_tok (x := [110, 111, 116]) (k := 0) (by rfl) (fits_sep b1.1 b1.2.1) (lx_blank b1.2.2 h5)
  obtain ⟨U, hU, hK⟩ := scan_lx hL (by simp [parB]; omega)
  have hlU := (kts_len U).symm.trans (congrArg List.length hK)
  have h1 := (kts_len T).symm.trans (congrArg List.length r.kt)
  simp only [List.length_append, List.length_cons, List.length_nil] at hlU h1
  exact like_of hU (f := (fuelOf U - 10) + 10) (by unfold fuelOf; omega) (par_oper r hK (by unfold fuelOf; omega))
theorem paren_c (hl : s.length ≤ 600) (hn : (35 : UInt8) ∉ s) (hx : parseO s (rdO .scheme) = .ok x j) : LikeO x (parseO (parC s) (rdO .scheme)) := by
  obtain ⟨T, C, _, r⟩ := reads_of hx hn
  have hL : Lx (parC s) ((2, [40]) :: (C ++ [(2, [41]), ktEnd])) :=
    lx_sign (by simp) (lx_cut sep41.1 sep41.2 hn r.lx (lx_sign (b := 41) (by simp) lx_nil))
  obtain ⟨U, hU, hK⟩ := scan_lx hL (by simp [parC]; omega)
  have hlU := (kts_len U).symm.trans (congrArg List.length hK)
  have h1 := (kts_len T).symm.trans (congrArg List.length r.kt)
  simp only [List.length_append, List.length_cons, List.length_nil] at hlU h1
  exact like_of hU (f := (fuelOf U - 4) + 4) (by unfold fuelOf; omega) (par_scheme r hK (by unfold fuelOf; omega))
theorem paren_d (hl : s.length ≤ 600) (hn : (35 : UInt8) ∉ s) (hx : parseO s (rdO .formula) = .ok x j) : LikeO x (parseO (parD s) (rdO .formula)) := by
  obtain ⟨T, C, _, r⟩ := reads_of hx hn
  have hL : Lx (parD s) ((2, [40]) :: (C ++ [(2, [41]), ktEnd])) :=
    lx_sign (by simp) (lx_blank (by decide) (lx_cut sep41.1 sep41.2 hn r.lx (lx_sign (b := 41) (by simp) lx_nil)))
  obtain ⟨U, hU, hK⟩ := scan_lx hL (by simp [parD]; omega)
  have hlU := (kts_len U).symm.trans (congrArg List.length hK)
  have h1 := (kts_len T).symm.trans (congrArg List.length r.kt)
  simp only [List.length_append, List.length_cons, List.length_nil] at hlU h1
  exact like_of hU (f := (fuelOf U - 4) + 4) (by unfold fuelOf; omega) (par_formula r hK (by unfold fuelOf; omega))
end
end Go.Proofs.YtekccolabhfopaaGreatDoor
end
section
/- Walks: strings.Contains at one byte; cells of kids; results of the parser's functions, whatever they are. -/
set_option maxHeartbeats 4000000
set_option maxRecDepth 100000
namespace Go.Proofs.YtekccolabhfopaaGreatDoor
open Go.RowKit
def MostAt (w : World) : Prop := ∃ m, w.cell? ⟨1, 0, none⟩ = some (.int .i64 m)
theorem most_of_shaped {W : World} (h : W.ShapedOpen Tryz.prog) : MostAt W := Tryz.laysM144.s1_3 W h
theorem hash_any (l : List UInt8) (b : Bool) (hb : l.contains 35 = b) (hl : l.length ≤ 1000000) (W : World) (hm : MostAt W) : Calls Tryz.prog 26 #[.string ⟨l.toArray⟩, .string ⟨#[35]⟩] W fun e w' => e = .returned (.bool b) ∧ w' = W := by
  obtain ⟨m, hm⟩ := hm
  refine (Tryz.strings_Contains ⟨l.toArray⟩ ⟨#[35]⟩ m W (by rw [ba_size]; omega) hm).mono ?_
  rintro e w' ⟨rfl, rfl⟩
  refine ⟨ret_b ?_, rfl⟩
  rw [← hb, Lib.contains_iff_indexByte, ← Lib.index_one]
  unfold Lib.contains
  simp
/-- The kids' row: each of its cells. -/
theorem kids_cells {S : Nat → Prop} {w : World} {x : Syn} {l : List Syn} {v : Value} (h : KidsAt S w (x :: l) v) : ∃ (g c : Nat) (row : List Value), v = .slice (some ⟨g, 0, none⟩) (l.length + 1) c ∧ g < w.heap.size ∧ RowAt S w (x :: l) row ∧ ∀ j u, row[j]? = some u → w.cell? ⟨g, j, none⟩ = some u := by
  cases h with
  | @some _ b c cur fr hb hp hr =>
    refine ⟨b, c, _, rfl, (Array.getElem?_eq_some_iff.1 hb).1, hr, fun j u hj => ?_⟩
    rw [cell_of_row w b j cur _ _ hb]
    have hlt : j < (x :: l).length * 5 := by
      rcases Nat.lt_or_ge j ((x :: l).length * 5) with h | h
      · exact h
      · rw [List.getElem?_eq_none (by rw [List.length_take]; omega)] at hj; cases hj
    rw [List.getElem?_take_of_lt hlt] at hj
    simpa using hj
/-- The number of an outcome's error. -/
def errNo (o : Out Syn) : Int := match o with | .none => 0 | .err _ e => (e : Nat) | .ok _ _ => 0
/-- A result, whatever it is. -/
def ORes (w : World) (o : Out Syn) (e : Ending) (w' : World) : Prop :=
  Below w.heap.size w w' ∧ ∃ (kd n a q : Int) (tx : List UInt8) (p : Option Addr) (m c : Nat), e = .returned (.tuple #[.agg #[.int .i64 kd, .string ⟨List.toArray tx⟩, .int .i64 n, .int .i64 a, .slice p m c], .int .i64 q, .int .i64 (errNo o)])
theorem PRes.any {w w' : World} {o : Out Syn} {e : Ending} (h : PRes w o e w') : ORes w o e w' := by
  obtain ⟨hb, h⟩ := h
  cases o with
  | none => exact h.elim
  | err p x => exact ⟨hb, 0, 0, 0, p, [], none, 0, 0, h⟩
  | ok t j =>
    obtain ⟨v, rfl, kv, rfl, hk⟩ := h
    obtain ⟨p, m, c, rfl⟩ := hk.shape
    exact ⟨hb, t.kind, t.num, t.pos, 0, t.text, p, m, c, rfl⟩
theorem err_pos {s : List UInt8} {nt : NT} {p : Int} {x : Nat} (h : parseO s (rdO nt) = .err p x) : 0 < x := by
  unfold parseO at h
  cases hT : scan s with
  | error e =>
    obtain ⟨d, e⟩ := e
    rw [hT] at h
    cases h
    exact scan_err hT
  | ok T =>
    rw [hT] at h
    have hg := whole_g (scan_asc hT) (rd_g (res := reservedB) (scan_asc hT) (fuelOf T) nt) (scanned hT).pos
    change whole T (rd reservedB T (fuelOf T) nt) = _ at h
    rw [h] at hg
    have := hg.2.2
    omega
theorem ok_of_errNo {s : List UInt8} {nt : NT} (h : errNo (parseO s (rdO nt)) = 0) : ∃ x j, parseO s (rdO nt) = .ok x j := by
  cases ho : parseO s (rdO nt) with
  | none => exact absurd ho (parseO_nn s _ fun T h => rdO_nn h nt 0 0 h.pos)
  | err p e =>
    have := err_pos ho
    rw [ho] at h
    simp only [errNo] at h
    omega
  | ok x j => exact ⟨x, j, rfl⟩
theorem rdO_sm {s : List UInt8} {nt : NT} {x : Syn} {j : Nat} (hs : s.length ≤ 90000) (h : parseO s (rdO nt) = .ok x j) : Small x := by
  have := parseO_sm s (rdO nt) hs (fun T hT => rd_sm hT _ nt 0 0)
  rw [h] at this
  exact this
/-- Cells that read as listed. -/
def CellsIn (w : World) (L : List (Nat × Nat × Value)) : Prop := ∀ x ∈ L, w.cell? ⟨x.1, x.2.1, none⟩ = some x.2.2
theorem cellsIn_nil {w : World} : CellsIn w [] ↔ True := ⟨fun _ => trivial, fun _ _ h => (List.not_mem_nil h).elim⟩
theorem cellsIn_cons {w : World} {a b : Nat} {v : Value} {L : List (Nat × Nat × Value)} : CellsIn w ((a, b, v) :: L) ↔ w.cell? ⟨a, b, none⟩ = some v ∧ CellsIn w L := by
  unfold CellsIn
  rw [List.forall_mem_cons]
theorem CellsIn.below {w w' : World} {L : List (Nat × Nat × Value)} (h : CellsIn w L) (hb : Below w.heap.size w w') : CellsIn w' L := fun x hx => by
  rw [hb.cell (World.block_lt_of_cell? w _ (h x hx))]; exact h x hx
theorem cell_below {w w' : World} {a b : Nat} {v : Value} (h : w.cell? ⟨a, b, none⟩ = some v) (hb : Below w.heap.size w w') : w'.cell? ⟨a, b, none⟩ = some v := by
  rw [hb.cell (World.block_lt_of_cell? w _ h)]; exact h
theorem CellsIn.at {w : World} {L : List (Nat × Nat × Value)} (h : CellsIn w L) (n : Nat) {a b : Nat} {v : Value} (e : L[n]? = some (a, b, v)) : w.cell? ⟨a, b, none⟩ = some v := h _ (List.mem_of_getElem? e)
theorem cells_of_blk {w : World} {B : Nat} {a b c d e : Value} {T : TypeId} (h : w.heap[B]? = some (.cells #[a, b, c, d, e] T (0, 0))) : CellsIn w [(B, 0, a), (B, 1, b), (B, 2, c), (B, 3, d), (B, 4, e)] := by
  obtain ⟨⟨a0, a1, a2, a3, a4⟩, -⟩ := own5 h
  simp only [cellsIn_cons, cellsIn_nil, and_true]
  exact ⟨a0, a1, a2, a3, a4⟩
theorem CellsIn.app {w : World} {L M : List (Nat × Nat × Value)} (h : CellsIn w L) (h' : CellsIn w M) : CellsIn w (L ++ M) := fun x hx => by
  rcases List.mem_append.1 hx with hx | hx
  · exact h x hx
  · exact h' x hx
end Go.Proofs.YtekccolabhfopaaGreatDoor
end
