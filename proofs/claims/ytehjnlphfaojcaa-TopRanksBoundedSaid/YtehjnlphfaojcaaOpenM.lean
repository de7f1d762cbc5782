/- A matrix that comes in: its cells read as rows of integers. -/
import Derived.Test.YtehjnlphfaojcaaMx
import Derived.Deep.Slices
import Derived.Deep.Fields
import Derived.ChangeSame
import Derived.Carry
import Derived.OpenShut
set_option maxRecDepth 100000
namespace Go.Proofs.Ytehjnlphfaojcaa
open Go.ChangeShapes Go.WideShapes Go.Deep Go.RowKit
theorem list_of {α : Type} {R : Nat → α → Prop} : ∀ n : Nat, (∀ i, i < n → ∃ t, R i t) → ∃ ts : List α, ts.length = n ∧ ∀ i (h : i < ts.length), R i ts[i] := by
  intro n
  induction n with
  | zero => intro _; exact ⟨[], rfl, fun i h => by simp at h⟩
  | succ n ih =>
    intro h
    obtain ⟨ts, hl, hr⟩ := ih (fun i hi => h i (by omega))
    obtain ⟨t, ht⟩ := h n (by omega)
    refine ⟨ts ++ [t], by simp [hl], fun i hi => ?_⟩
    by_cases h' : i < ts.length
    · rw [List.getElem_append_left h']; exact hr i h'
    · have : i = n := by simp at hi; omega
      subst this
      rw [List.getElem_append_right (by omega)]
      simpa [hl] using ht
theorem laidOut : laidOutB Try.prog = true := by kernel_rfl
section
variable {H : Type} {enc : TypeId × Value → H} {W : World}
theorem plain_of {a : Addr} {x : Value} (h : W.cell? a = some x) : ∃ b o, a = ⟨b, o, none⟩ ∧ b < W.heap.size := by
  obtain ⟨b, off, spot⟩ := a
  have hspot : spot = none := World.cell?_spot h
  subst hspot
  exact ⟨b, off, rfl, World.block_lt_of_cell? W _ h⟩
theorem ints_of_trod {n : Nat} {v : Value} {x : DataW H × List MemPlace} (h : DataW.trod enc Try.prog W 0 (fun _ => true) true n 33 [v] = some x) : ∃ xs, IntsAt W v xs := by
  rcases open_slice1 Try.underlying33 (by kernel_rfl) h with ⟨hcs, _⟩ | ⟨a, len, cap, m, n', V, D, Pl, hcs, _, hl, hm, hmm, _, hi⟩
  · injection hcs with hcs _; subst hcs; exact ⟨[], IntsAt.nil W⟩
  · injection hcs with hcs _; subst hcs
    simp only [if_true] at hmm
    subst hmm
    have key : ∀ i, i < len → ∃ z : Int, W.cell? (a.add i) = some (.int .i64 z) := by
      intro i hi0
      obtain ⟨hc, ht⟩ := hi i (by omega)
      obtain ⟨k, e0, _, _⟩ := DataW.trod_int Try.underlying3 ht
      injection e0 with e0 _
      exact ⟨k, by rw [hc, e0]⟩
    obtain ⟨xs, hxs, hr⟩ := list_of (R := fun i (z : Int) => W.cell? (a.add i) = some (.int .i64 z)) len key
    subst hxs
    refine ⟨xs, some a, m, rfl, hl, (fun h => by cases h), fun ad had hc0 => ?_⟩
    injection had with had; subst had
    obtain ⟨hc, -⟩ := hi 0 hc0
    obtain ⟨b, o, rfl, hlt⟩ := plain_of (W := W) (a := a) (x := V 0) (by rw [← hc]; congr 1)
    refine ⟨b, o, rfl, hlt, fun t ht => ?_⟩
    have := hr t ht
    rw [add_none] at this
    rw [this, List.getD_eq_getElem?_getD, List.getElem?_eq_getElem ht]; rfl
theorem rows_of_trod {n : Nat} {v : Value} {x : DataW H × List MemPlace} (h : DataW.trod enc Try.prog W 0 (fun _ => true) true n 22 [v] = some x) : ∃ rows, RowsAt W v rows := by
  rcases open_slice1 Try.underlying22 (by kernel_rfl) h with ⟨hcs, _⟩ | ⟨a, len, cap, m, n', V, D, Pl, hcs, _, hl, hm, hmm, _, hi⟩
  · injection hcs with hcs _; subst hcs; exact ⟨[], RowsAt.nil W⟩
  · injection hcs with hcs _; subst hcs
    simp only [if_true] at hmm
    subst hmm
    have key : ∀ i, i < len → ∃ r : List Int, ∃ u, W.cell? (a.add i) = some u ∧ IntsAt W u r := by
      intro i hi0
      obtain ⟨hc, ht⟩ := hi i (by omega)
      obtain ⟨r, hr⟩ := ints_of_trod ht
      exact ⟨r, _, hc, hr⟩
    obtain ⟨rows, hxs, hr⟩ := list_of (R := fun i (r : List Int) => ∃ u, W.cell? (a.add i) = some u ∧ IntsAt W u r) len key
    subst hxs
    refine ⟨rows, some a, m, rfl, hl, (fun h => by cases h), fun ad had hc0 => ?_⟩
    injection had with had; subst had
    obtain ⟨hc, -⟩ := hi 0 hc0
    obtain ⟨b, o, rfl, hlt⟩ := plain_of (W := W) (a := a) (x := V 0) (by rw [← hc]; congr 1)
    refine ⟨b, o, rfl, hlt, fun t ht => ?_⟩
    obtain ⟨u, h1, h2⟩ := hr t ht
    rw [add_none] at h1
    exact ⟨u, h1, h2⟩
theorem mat_one : oneCellFields Try.prog (match Try.prog.underlying 24 with | some (.struct fs) => fs | _ => #[]) = true := by kernel_rfl
theorem open_mat {b0 : Nat} {v : Value} {d : DataW H} {p : List MemPlace} (hval : Value.okWide Try.prog W .any b0 24 v) (h : DataW.Trod enc Try.prog W 0 (fun _ => true) true 24 v d p) :
    ∃ n rows, MatAt W v n rows := by
  have hv : ∃ cs, v = .agg cs ∧ cs.size = 2 := by
    simp only [Value.okWide, Try.underlying24] at hval
    obtain ⟨cs, h1, h2, _⟩ := hval
    exact ⟨cs, h1, h2.trans (by kernel_rfl)⟩
  obtain ⟨cs, rfl, hsz⟩ := hv
  obtain ⟨l⟩ := cs
  match l, hsz with
  | [x0, x1], _ =>
    obtain ⟨fuel, hf⟩ := h
    have mat_one := mat_one
    rw [Try.underlying24] at mat_one
    obtain ⟨ys, n', hn', hy, hlen, hyl, hfl⟩ := DataW.trod_struct Try.underlying24 hf
    obtain ⟨o0, k0⟩ := hone_of mat_one 0 _ rfl
    obtain ⟨o1, k1⟩ := hone_of mat_one 1 _ rfl
    have hyl : ys.length = 2 := hyl
    match ys, hyl with
    | [y0, y1], _ =>
      have f0 := hfl 0 _ rfl
      have f1 := hfl 1 _ rfl
      rw [o0, k0] at f0
      rw [o1, k1] at f1
      obtain ⟨k, e0, _, _⟩ := DataW.trod_int Try.underlying3 (show DataW.trod enc Try.prog W 0 (fun _ => true) true n' 3 [x0] = some y0 by simpa [Value.cells] using f0)
      obtain ⟨rows, hr⟩ := rows_of_trod (show DataW.trod enc Try.prog W 0 (fun _ => true) true n' 22 [x1] = some y1 by simpa [Value.cells] using f1)
      injection e0 with e0 _
      subst e0
      exact ⟨k, rows, x1, rfl, hr⟩
end
end Go.Proofs.Ytehjnlphfaojcaa
