/- A slice of tokens that comes in: its cells read as tokens. -/
import Derived.Test.YtpgedklpnnhjlaaGreatDoorSame
import Derived.Deep.Slices
import Derived.Deep.Fields
import Derived.ChangeSame
import Derived.Carry
import Derived.OpenShut
set_option maxRecDepth 100000
namespace Go.Proofs.YtpgedklpnnhjlaaGreatDoor
open Go.ChangeShapes Go.WideShapes Go.Deep Go.RowKit
theorem list_of {α : Type} {R : Nat → α → Prop} : ∀ n : Nat, (∀ i, i < n → ∃ t, R i t) → ∃ ts : List α, ts.length = n ∧ ∀ i (h : i < ts.length), R i ts[i] := by
  intro n
  induction n with
  | zero => intro _; exact ⟨[], rfl, fun i h => by simp at h⟩
  | succ n ih =>
    intro h
    obtain ⟨ts, hl, hr⟩ := ih (fun i hi => h i (by omega))
    obtain ⟨t, ht⟩ := h n (by omega)
    refine ⟨ts ++ [t], by simp [hl], fun i hi => ?_⟩
    by_cases h' : i < ts.length
    · rw [List.getElem_append_left h']; exact hr i h'
    · have : i = n := by simp at hi; omega
      subst this
      rw [List.getElem_append_right (by omega)]
      simpa [hl] using ht
theorem add_none (b off j : Nat) : (⟨b, off, none⟩ : Addr).add j = ⟨b, off + j, none⟩ := by unfold Addr.add; split <;> simp_all
theorem laidOut : laidOutB Tryz.prog = true := by kernel_rfl
theorem tok_one : oneCellFields Tryz.prog (match Tryz.prog.underlying 32 with | some (.struct fs) => fs | _ => #[]) = true := by kernel_rfl
section
variable {H : Type} {enc : TypeId × Value → H} {W : World}
theorem open_toks {b0 : Nat} {v : Value} {d : DataW H} {p : List MemPlace} (hval : Value.okWide Tryz.prog W .any b0 24 v) (h : DataW.Trod enc Tryz.prog W 0 (fun _ => true) true 24 v d p) :
    ∃ ts : List Tok, TokSl W v ts ∧ ts.length ≤ maxLen ∧ ∀ t ∈ ts, t.text.length ≤ maxLen := by
  obtain ⟨a0, len0, cap0, rfl⟩ := okWide_slice Tryz.underlying24 hval
  obtain ⟨fuel, hf⟩ := h
  rcases open_slice Tryz.underlying24 hf with ⟨hcs, _⟩ | ⟨a, len, cap, m, n, D, Pl, hcs, _, hl, hm, hmm, _, hi⟩
  · simp [Value.cells] at hcs
    obtain ⟨rfl, rfl, rfl⟩ := hcs
    exact ⟨[], .inl ⟨rfl, none, 0, rfl⟩, by simp, by simp⟩
  · simp [Value.cells] at hcs
    obtain ⟨rfl, rfl, rfl⟩ := hcs
    simp only [if_true] at hmm
    subst hmm
    have hC : Tryz.prog.cellsOf 32 = 3 := by kernel_rfl
    have tok_one := tok_one
    rw [Tryz.underlying32] at tok_one
    have key : ∀ i, i < len0 → ∃ t : Tok, t.text.length ≤ maxLen ∧ W.cell? (a.add (i * 3)) = some (.int .i64 t.kind) ∧ W.cell? (a.add (i * 3 + 1)) = some (.string ⟨t.text.toArray⟩) ∧ W.cell? (a.add (i * 3 + 2)) = some (.int .i64 t.pos) := by
      intro i hi0
      obtain ⟨cs', hc, ht'⟩ := hi i (by omega)
      rw [hC] at hc
      obtain ⟨ys, n', hn', hy, hlen, hyl, hfl⟩ := DataW.trod_struct Tryz.underlying32 ht'
      obtain ⟨_, hcl, hat⟩ := World.cells?_some hc
      have hcl : cs'.length = 3 := hcl
      match cs', hcl with
      | [x0, x1, x2], _ =>
        obtain ⟨o0, k0⟩ := hone_of tok_one 0 _ rfl
        obtain ⟨o1, k1⟩ := hone_of tok_one 1 _ rfl
        obtain ⟨o2, k2⟩ := hone_of tok_one 2 _ rfl
        have f0 := hfl 0 _ rfl
        have f1 := hfl 1 _ rfl
        have f2 := hfl 2 _ rfl
        rw [o0, k0] at f0
        rw [o1, k1] at f1
        rw [o2, k2] at f2
        have hyl : ys.length = 3 := hyl
        match ys, hyl with
        | [y0, y1, y2], _ =>
          obtain ⟨k, e0, _, _⟩ := DataW.trod_int Tryz.underlying3 (by simpa using f0)
          obtain ⟨s, e1, _, hs⟩ := DataW.trod_string Tryz.underlying9 (by simpa using f1)
          obtain ⟨q, e2, _, _⟩ := DataW.trod_int Tryz.underlying3 (by simpa using f2)
          simp at e0 e1 e2
          subst e0 e1 e2
          have c0 := hat 0 (by simp)
          have c1 := hat 1 (by simp)
          have c2 := hat 2 (by simp)
          rw [Go.Deep.add_add] at c0 c1 c2
          refine ⟨⟨k, s.data.toList, q⟩, by rw [Array.length_toList]; exact hs, by simpa using c0, by simpa using c1, by simpa using c2⟩
    obtain ⟨ts, hts, hr⟩ := list_of (R := fun i (t : Tok) => t.text.length ≤ maxLen ∧ W.cell? (a.add (i * 3)) = some (.int .i64 t.kind) ∧ W.cell? (a.add (i * 3 + 1)) = some (.string ⟨t.text.toArray⟩) ∧ W.cell? (a.add (i * 3 + 2)) = some (.int .i64 t.pos)) len0 key
    subst hts
    refine ⟨ts, ?_, by omega, fun t ht => ?_⟩
    · by_cases h0 : ts.length = 0
      · exact .inl ⟨List.eq_nil_of_length_eq_zero h0, _, _, by rw [h0]⟩
      · have c0 := (hr 0 (by omega)).2.1
        rw [Nat.zero_mul] at c0
        obtain ⟨b, off, spot⟩ := a
        have hspot : spot = none := by simpa [Addr.add] using World.cell?_spot c0
        subst hspot
        simp only [add_none] at hr c0
        refine .inr ⟨b, off, _, rfl, World.block_lt_of_cell? W _ c0, fun k hk => ?_⟩
        have := hr k hk
        simp only [Nat.add_assoc]
        exact this.2
    · obtain ⟨j, hj, rfl⟩ := List.mem_iff_getElem.1 ht
      exact (hr j hj).1
theorem open_arr2 {b0 : Nat} {v : Value} {d : DataW H} {p : List MemPlace} (hval : Value.okWide Tryz.prog W .any b0 43 v) (h : DataW.Trod enc Tryz.prog W 0 (fun _ => true) true 43 v d p) :
    ∃ a b : Int, v = .agg #[.int .i64 a, .int .i64 b] := by
  have hv : ∃ cs, v = .agg cs ∧ cs.size = 2 := by
    simp only [Value.okWide, Tryz.underlying43] at hval
    obtain ⟨cs, h1, h2, _⟩ := hval
    exact ⟨cs, h1, h2.trans (by kernel_rfl)⟩
  obtain ⟨cs, rfl, hsz⟩ := hv
  obtain ⟨l⟩ := cs
  match l, hsz with
  | [x0, x1], _ =>
    obtain ⟨fuel, hf⟩ := h
    obtain ⟨xs, n, _, _, _, hlen, hg⟩ := DataW.trod_array Tryz.underlying43 hf
    have hC : Tryz.prog.cellsOf 3 = 1 := by kernel_rfl
    match xs, hlen with
    | [y0, y1], _ =>
      have f0 := hg 0 (by decide)
      have f1 := hg 1 (by decide)
      rw [hC] at f0 f1
      obtain ⟨k, e0, _, _⟩ := DataW.trod_int Tryz.underlying3 (show DataW.trod enc Tryz.prog W 0 (fun _ => true) true n 3 [x0] = some y0 by simpa [Value.cells] using f0)
      obtain ⟨j, e1, _, _⟩ := DataW.trod_int Tryz.underlying3 (show DataW.trod enc Tryz.prog W 0 (fun _ => true) true n 3 [x1] = some y1 by simpa [Value.cells] using f1)
      simp at e0 e1
      subst e0 e1
      exact ⟨k, j, rfl⟩
end
end Go.Proofs.YtpgedklpnnhjlaaGreatDoor
