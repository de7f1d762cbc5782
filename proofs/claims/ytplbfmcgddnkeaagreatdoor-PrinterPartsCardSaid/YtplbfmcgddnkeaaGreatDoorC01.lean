/- Walks of functions, and plain facts. -/
import Derived.WalkKit
import Derived.WalkLawsBesides
import Derived.WalkSpells
import Derived.Deep.QuietTactic
import Derived.BigQuiet
import Derived.IntWalk
import Derived.Lib.Hide
import Derived.Handy
import Derived.Test.YtplbfmcgddnkeaaGreatDoorProg
import Derived.Shelf.Strings.Builder1
import Derived.Lib.Strings
import Derived.Lib.Atoi
import Derived.Lib.AtoiAll
import Derived.Lib.TrimByte
set_option linter.unusedVariables false
set_option linter.unusedSimpArgs false
set_option maxHeartbeats 20000000
set_option maxRecDepth 100000
namespace Go.Proofs.YtplbfmcgddnkeaaGreatDoor
open Go.RowKit
theorem Q61 (l : List UInt8) : (ByteArray.mk l.toArray).size = l.length := by simp [ByteArray.size]
@[go_sem] theorem Qtv (l : List UInt8) (k : Nat) (h : k < (ByteArray.mk l.toArray).size) : (ByteArray.mk l.toArray)[k]'h = l[k]'(by rw [Q61] at h; exact h) := rfl
attribute [go_sem] ByteArray.extract_mk ByteArray.toList_eq
@[go_sem] theorem Qtu {α : Type} (s : List α) (k : Nat) : List.take (s.length - k) (List.drop k s) = List.drop k s := List.take_of_length_le (by simp)
@[go_sem] theorem Qtt (a b : List UInt8) : ByteArray.mk a.toArray ++ ByteArray.mk b.toArray = ByteArray.mk (a ++ b).toArray := by
 apply ByteArray.ext; simp
theorem Q27 {k : IntKind} {a b : Int} (h : a = b) : Ending.returned (.int k a) = .returned (.int k b) := by rw [h]
theorem Q4 {a b : Bool} (h : a = b) : Ending.returned (.bool a) = .returned (.bool b) := by rw [h]
theorem Q1v {a b : List UInt8} (h : a = b) : Ending.returned (.string ⟨a.toArray⟩) = .returned (.string ⟨b.toArray⟩) := by rw [h]
theorem qh {p : Prop} (h : p) : RowKit.Hid p := h
theorem Qdi : (Tryz.prog.info? 75).map (·.size) = some 2 := by kernel_rfl
theorem Qrf : liesAt Tryz.prog Tryz.prog.depth 77 (2 / Tryz.prog.cellsOf 77) 0 75 1 = true := by kernel_rfl
theorem Qr9 : (Tryz.prog.info? 5).map (fun i => (i.zero, i.size, i.bytes)) = some (some (.int .u8 0), 1, 1) := by kernel_rfl
abbrev IsWr (B b : Nat) (l : List UInt8) (w : World) : Prop := Lib.IsBuilder 77 5 B b (Lib.byteCells l) w
def Q10 (b : Nat) (w w' : World) : Prop := ∀ k o, w.heap[k]? = some o → (∀ cs fr, o ≠ .cells cs 5 fr) → k ≠ b → w'.heap[k]? = some o
theorem Q10.refl (b : Nat) (w : World) : Q10 b w w := fun _ _ h _ _ => h
theorem Q10.trans {b : Nat} {w w' w'' : World} (h : Q10 b w w') (k : Q10 b w' w'') : Q10 b w w'' := fun i o e n m => k i o (h i o e n m) n m
theorem Q10.setCell (b o : Nat) (w : World) (v : Value) : Q10 b w (w.setCell ⟨b, o, none⟩ v) := fun k ob h _ hk => by rw [Below.heap_setCell _ _ _ _ hk]; exact h
theorem Q10.alloc (b : Nat) (w : World) (o : Obj) : Q10 b w (w.alloc o) := fun k ob h _ _ => by rw [Lib.alloc_old w o k (Array.getElem?_eq_some_iff.1 h).1]; exact h
theorem Q10.grown {b B n : Nat} {w w' : World} {v : Value} {xs : List Value} (hown : w.ownsRow B 5 1 v n xs) (hg : w.grownBy w' v.ownBlock) : Q10 b w w' := fun k ob h hT _ => by
 rw [hg.block k (Array.getElem?_eq_some_iff.1 h).1 (fun e => ?_)]
 ·exact h
 ·rcases hown.2 with ⟨rfl, _⟩ | ⟨g, cap, cur, rfl, _, hh, _⟩
  ·simp [Value.ownBlock] at e
  ·simp only [Value.ownBlock, Option.some.injEq] at e
   subst e
   rw [h] at hh
   simp only [Option.some.injEq] at hh
   exact hT _ _ hh
theorem Qj4 (b : Nat) (w : World) (h0 : w.cell? ⟨b, 0, none⟩ = some (.pointer none)) (hsh : w.shape? b = some (77, 2)) (hfz : w.frozen? ⟨b, 0, none⟩ = false) :
  Calls Tryz.prog 145 #[.pointer (some ⟨b, 0, none⟩)] w fun e w' => e = .returned (.tuple #[]) ∧ w' = w.setCell ⟨b, 0, none⟩ (.pointer (some ⟨b, 0, none⟩)) := by
 obtain ⟨j, hj, hjs⟩ := Option.map_eq_some_iff.1 Qdi
 go_enter Tryz.func145, Tryz.ntmps145
 go_wp2
 rw [Lib.run_to_unsafe w ⟨b, 0, none⟩ Tryz.underlying72 Tryz.underlying150 hj (by rw [hjs]; decide) hsh (Nat.zero_lt_succ 1)]
 simp only [Result.andThen]
 rw [Oper.upon_value]
 go_wp2
 rw [run_callFunc_extern Tryz.func176 (by kernel_rfl) (by kernel_rfl) (by kernel_rfl) (e := Extern.AbiNoEscape.same) (by kernel_rfl)]
 rw [Lib.run_noEscape]
 simp only [Result.andThen]
 rw [Oper.upon_value]
 go_wp2
 rw [Lib.run_from_unsafe w ⟨b, 0, none⟩ Tryz.underlying150 Tryz.underlying72 hj hsh Qrf]
 simp only [Result.andThen]
 rw [Oper.upon_value]
 go_wp2
 go_end0
 exact ⟨rfl, rfl⟩
theorem Qk8 (b : Nat) (w : World) (h0 : w.cell? ⟨b, 0, none⟩ = some (.pointer (some ⟨b, 0, none⟩))) :
  Calls Tryz.prog 145 #[.pointer (some ⟨b, 0, none⟩)] w fun e w' => e = .returned (.tuple #[]) ∧ w = w' := by
 obtain ⟨j, hj, _⟩ := Option.map_eq_some_iff.1 Qdi
 go_enter Tryz.func145, Tryz.ntmps145
 go_wp2
 rw [Lib.run_neq_ptr_same w _ Tryz.underlying72 hj]
 go_wp2
 go_end0
 exact ⟨rfl, rfl⟩
theorem Qpu (B b : Nat) (bs : List Value) (w : World) (h : Lib.IsBuilder 77 5 B b bs w) :
  Calls Tryz.prog 145 #[.pointer (some ⟨b, 0, none⟩)] w fun e w' => e = .returned (.tuple #[]) ∧ (Lib.BuilderAt 77 5 B b (.pointer (some ⟨b, 0, none⟩)) bs w' ∧ Below B w w' ∧ Q10 b w w') := by
 rcases h with h | h
 ·refine (Qj4 b w h.cell0 h.shape h.frozen0).mono ?_
  rintro e w' ⟨rfl, rfl⟩
  exact ⟨rfl, h.used _, (Below.refl B w).setCell (p := ⟨b, 0, none⟩) h.1 _, Q10.setCell _ _ _ _⟩
 ·refine (Qk8 b w h.cell0).mono ?_
  rintro e w' ⟨rfl, rfl⟩
  exact ⟨rfl, h, Below.refl B _, Q10.refl _ _⟩
theorem Qiv (B b : Nat) (l s : List UInt8) (w : World) (h : IsWr B b l w) (hlen : l.length + s.length ≤ 140737488355328) (hBw : B ≤ w.heap.size) :
  Calls Tryz.prog 99 #[.pointer (some ⟨b, 0, none⟩), .string ⟨s.toArray⟩] w fun e w' => e = .returned (.tuple #[.int .i64 s.length, .nilIface]) ∧ (IsWr B b (l ++ s) w' ∧ Below B w w' ∧ Q10 b w w') := by
 obtain ⟨i0, hi, hz0, hz1, hz2⟩ := info_parts Qr9
 have hbl : (Lib.byteCells l).length ≤ l.length := by simp [Lib.byteCells]
 go_enter Tryz.func99, Tryz.ntmps99
 go_wp2_with (go_at_call 145; refine (Qpu B b _ _ h).mono ?_)
 rintro e w1 ⟨rfl, h1, hb1, hk1⟩
 replace hk1 := qh hk1
 obtain ⟨hB, v, hbk, hown, hne⟩ := h1
 have c0 : w1.cell? ⟨b, 0, none⟩ = some (.pointer (some ⟨b, 0, none⟩)) := by rw [Lib.cell_of_heap hbk]; rfl
 have c1 : w1.cell? ⟨b, 1, none⟩ = some v := by rw [Lib.cell_of_heap hbk]; rfl
 go_wp2_with (at_builtin; refine Lib.wpList_append_own_string _ rfl _ _ 73 9 rfl B 5 i0 Tryz.underlying73 Tryz.underlying9 hi hz0 hz1 hz2 _ _ _ rfl hown ⟨s.toArray⟩ rfl ?c3 ?c4 ?c5 ?_)
 case c3 => unfold maxLen; rw [Q61]; omega
 case c4 => rw [Q61]; omega
 case c5 => have := hb1.size; omega
 intro v' w2 hown' hgrow _
 have hk2 := qh (hk1.out.trans (Q10.grown hown hgrow))
 have hlt : b < w1.heap.size := by
  rcases Nat.lt_or_ge b w1.heap.size with h' | h'
  ·exact h'
  ·simp [Array.getElem?_eq_none h'] at hbk
 have hb2 : w2.heap[b]? = some (.cells #[.pointer (some ⟨b, 0, none⟩), v] 77 (0, 0)) := by
  rw [hgrow.block b hlt (fun e => hne e.symm)]
  exact hbk
 have d0 : w2.cell? ⟨b, 0, none⟩ = some (.pointer (some ⟨b, 0, none⟩)) := by rw [Lib.cell_of_heap hb2]; rfl
 have d1 : w2.cell? ⟨b, 1, none⟩ = some v := by rw [Lib.cell_of_heap hb2]; rfl
 have f1 : w2.frozen? ⟨b, 1, none⟩ = false := Lib.frozen_of_heap hb2 1
 obtain ⟨ao, n', cap, rfl⟩ : ∃ ao n' cap, v' = .slice ao n' cap := by
  rcases hown'.2 with ⟨hv, _⟩ | ⟨g, cap, cur, hv, _⟩
  ·exact ⟨_, _, _, hv⟩
  ·exact ⟨_, _, _, hv⟩
 go_wp2
 go_ret2
 refine ⟨rfl, ?_, ?_, hk2.out.trans (Q10.setCell _ _ _ _)⟩
 ·exact Or.inr (Lib.BuilderAt.put (T := 77) (e := 5) hB hb2 (bs' := Lib.byteCells (l ++ s)) (by simpa [Lib.byteCells, Lib.strCells, ByteArray.size] using hown') (by decide))
 ·exact (hb1.grown hgrow (by have := hb1.size; omega) (fun k hk => (hown.lt k hk).1)).setCell (p := ⟨b, 1, none⟩) hB _
end Go.Proofs.YtplbfmcgddnkeaaGreatDoor
namespace Go.Proofs.YtplbfmcgddnkeaaGreatDoor
def Q0a (c : Int) : Bool := (decide (97 ≤ c) && decide (c ≤ 122)) || (decide (65 ≤ c) && decide (c ≤ 90))
def Q9 (c : Int) : Bool := (decide (48 ≤ c) && decide (c ≤ 57))
def Q5 (c : Int) : Bool := Q0a c || Q9 c
def Q01 (c : Int) : Bool := (c == 32) || (c == 9) || (c == 13) || (c == 10)
def Q22 (c : Int) : Bool := c != 10
def Q1 (p : Int → Bool) : List UInt8 → Nat
 | [] => 0
 | c :: r => if p c.toNat then Q1 p r + 1 else 0
theorem Q2n (p : Int → Bool) (l : List UInt8) : Q1 p l ≤ l.length := by
 induction l with
 | nil => simp [Q1]
 | cons c r ih => simp only [Q1]; split <;> simp <;> omega
theorem Q9b {p : Int → Bool} {l : List UInt8} {k : Nat} (h : k < l.length) (hp : p (l[k].toNat) = true) : Q1 p (l.drop k) = Q1 p (l.drop (k + 1)) + 1 := by
 rw [List.drop_eq_getElem_cons h]; simp [Q1, hp]
theorem Qcq {p : Int → Bool} {l : List UInt8} {k : Nat} (h : k < l.length) (hp : p (l[k].toNat) = false) : Q1 p (l.drop k) = 0 := by
 rw [List.drop_eq_getElem_cons h]; simp [Q1, hp]
def skip : Bool → List UInt8 → Nat
 | _, [] => 0
 | true, c :: r => if c.toNat = 10 then skip false r + 1 else skip true r + 1
 | false, c :: r => if c.toNat = 35 then skip true r + 1 else if Q01 c.toNat then skip false r + 1 else 0
theorem Q3m (b : Bool) (l : List UInt8) : skip b l ≤ l.length := by
 induction l generalizing b with
 | nil => simp [skip]
 | cons c r ih =>
  have h1 := ih true
  have h2 := ih false
  cases b <;> simp only [skip] <;> (repeat' split) <;> simp <;> omega
theorem Qod (l : List UInt8) : skip false l = Q1 Q01 l + skip false (l.drop (Q1 Q01 l)) := by
 induction l with
 | nil => simp [skip, Q1]
 | cons c r ih =>
  by_cases h : c.toNat = 35
  ·have : Q01 c.toNat = false := by simp [Q01, h]
   simp [Q1, this]
  ·cases hb : Q01 c.toNat
   ·simp [Q1, hb]
   ·simp only [Q1, hb, if_true, skip, h, if_false, List.drop_succ_cons]; omega
theorem Qqx (r : List UInt8) : skip true r = Q1 Q22 r + skip false (r.drop (Q1 Q22 r)) := by
 induction r with
 | nil => simp [skip, Q1]
 | cons c r ih =>
  by_cases h : c.toNat = 10
  ·have h1 : Q22 c.toNat = false := by simp [Q22, h]
   have h2 : Q01 c.toNat = true := by simp [Q01, h]
   rw [skip, if_pos h, Q1, if_neg (by simp [h1]), List.drop_zero, skip, if_neg (by omega), if_pos h2]; omega
  ·have h1 : Q22 c.toNat = true := by simp [Q22]; omega
   simp only [Q1, h1, if_true, skip, h, if_false, List.drop_succ_cons]; omega
theorem Qto {l : List UInt8} (h : Lib.hasPrefix l [35] = true) : skip false l = Q1 Q22 l + skip false (l.drop (Q1 Q22 l)) := by
 cases l with
 | nil => simp [Lib.hasPrefix] at h
 | cons c r =>
  have hc : c = 35 := by
   have : (35 : UInt8) = c := by simpa [Lib.hasPrefix, List.isPrefixOf] using h
   exact this.symm
  subst hc
  have := Qqx r
  simp only [skip, Q1]
  rw [if_pos (by rfl), if_pos (by simp [Q22]), List.drop_succ_cons]
  omega
theorem Qkr {l : List UInt8} (h : Lib.hasPrefix l [35] = true) : 0 < Q1 Q22 l := by
 cases l with
 | nil => simp [Lib.hasPrefix] at h
 | cons c r =>
  have hc : c = 35 := by
   have : (35 : UInt8) = c := by simpa [Lib.hasPrefix, List.isPrefixOf] using h
   exact this.symm
  subst hc
  rw [Q1, if_pos (by simp [Q22])]; omega
theorem Qk1 {l : List UInt8} (h : Lib.hasPrefix l [35] = false) (hb : Q1 Q01 l = 0) : skip false l = 0 := by
 cases l with
 | nil => rfl
 | cons c r =>
  have hc : ¬ c.toNat = 35 := by
   intro e
   have : c = 35 := UInt8.toNat_inj.1 e
   simp [Lib.hasPrefix, List.isPrefixOf, this] at h
  simp only [Q1] at hb
  simp only [skip, hc, if_false]
  split
  ·rename_i h'; simp [h'] at hb
  ·rfl
theorem Qss {l : List UInt8} {k : Nat} (h : k < l.length) (hp : Q01 (l[k].toNat) = true) : skip false (l.drop k) = skip false (l.drop (k + 1)) + 1 := by
 have h1 : ¬ l[k].toNat = 35 := by intro e; simp [e, Q01] at hp
 rw [List.drop_eq_getElem_cons h, skip, if_neg h1, if_pos hp]
theorem Qq3 {l : List UInt8} {k : Nat} (h : k < l.length) (hp : Q01 (l[k].toNat) = false) (h1 : ¬ l[k].toNat = 35) : skip false (l.drop k) = 0 := by
 rw [List.drop_eq_getElem_cons h, skip, if_neg h1, if_neg (by simp [hp])]
theorem Qil {l : List UInt8} {k : Nat} (h : k < l.length) (h1 : ¬ l[k].toNat = 10) : skip true (l.drop k) = skip true (l.drop (k + 1)) + 1 := by
 rw [List.drop_eq_getElem_cons h, skip, if_neg h1]
theorem Qt7 {l : List UInt8} {k : Nat} (h : k < l.length) (h1 : l[k].toNat = 10) : skip true (l.drop k) = skip false (l.drop k) := by
 rw [List.drop_eq_getElem_cons h]; simp [skip, h1, Q01]
theorem Qli {l : List UInt8} {k : Nat} (h : k < l.length) (h1 : l[k].toNat = 35) : skip false (l.drop k) = skip true (l.drop k) := by
 rw [List.drop_eq_getElem_cons h]; simp [skip, h1]
def Q24 : Nat → List UInt8 → Option Nat
 | n, [] => some n
 | n, c :: r => if 1048576 < 10 * n + (c.toNat - 48) then none else Q24 (10 * n + (c.toNat - 48)) r
def Q1i : List UInt8 := [59, 44, 58, 40, 41, 123, 125, 43, 45, 61, 60]
def Q0d : List UInt8 → Nat
 | [] => 0
 | [c] => if Q1i.contains c then 1 else 0
 | c :: d :: _ => if d = 61 ∧ (c = 60 ∨ c = 33) then 2 else if Q1i.contains c then 1 else 0
theorem Q6r (l : List UInt8) : Q0d l ≤ l.length := by
 match l with
 | [] => simp [Q0d]
 | [c] => simp only [Q0d]; split <;> simp
 | c :: d :: r => simp only [Q0d]; (repeat' split) <;> simp
def tok (l : List UInt8) : Except (Nat × Nat) (Nat × Nat) :=
 if Q1 Q5 l = 0 then
  if Q0d l = 0 then .error (0, 4) else .ok (2, Q0d l)
 else if Q1 Q0a l = 0 then
  if Q1 Q9 l < Q1 Q5 l then .error (Q1 Q9 l, 4)
  else if (Q24 0 (l.take (Q1 Q5 l))).isNone then .error (0, 2)
  else .ok (1, Q1 Q5 l)
 else if 24 < Q1 Q5 l then .error (0, 8)
 else .ok (0, Q1 Q5 l)
structure Tok where
 kind : Int
 text : List UInt8
 pos : Int
deriving DecidableEq
def Qz : Nat → Nat → List UInt8 → Except (Nat × Nat) (List Tok)
 | 0, _, _ => .ok []
 | f + 1, p, l =>
  let k := skip false l
  match l.drop k with
  | [] => .ok [⟨3, [], ((p + k : Nat) : Int)⟩]
  | c :: r =>
   match tok (c :: r) with
   | .error (d, e) => .error (p + k + d, e)
   | .ok (kind, n) =>
    match Qz f (p + k + n) ((c :: r).drop n) with
    | .error x => .error x
    | .ok ts => .ok (⟨kind, (c :: r).take n, ((p + k : Nat) : Int)⟩ :: ts)
def scan (l : List UInt8) : Except (Nat × Nat) (List Tok) := if 65536 < l.length then .error (0, 13) else Qz (l.length + 1) 0 l
def dv (n : Nat) (l : List UInt8) : Nat := l.foldl (fun n c => 10 * n + (c.toNat - 48)) n
theorem Qhk (n : Nat) : dv n [] = n := rfl
theorem Q4k (n : Nat) (c : UInt8) (r : List UInt8) : dv n (c :: r) = dv (10 * n + (c.toNat - 48)) r := by
 unfold dv; rw [List.foldl_cons]
theorem Q87 (l : List UInt8) : ∀ n, n * 10 ^ l.length ≤ dv n l := by
 induction l with
 | nil => intro n; simp [Qhk]
 | cons c r ih =>
  intro n
  have e : n * 10 ^ (c :: r).length = 10 * n * 10 ^ r.length := by
   rw [List.length_cons, Nat.pow_succ, Nat.mul_comm (10 ^ r.length) 10, ← Nat.mul_assoc, Nat.mul_comm n 10]
  rw [e]
  have e2 : dv n (c :: r) = dv (10 * n + (c.toNat - 48)) r := Q4k n c r
  rw [e2]
  have h1 : 10 * n ≤ 10 * n + (c.toNat - 48) := Nat.le_add_right _ _
  have h2 := Nat.mul_le_mul_right (10 ^ r.length) h1
  exact Nat.le_trans h2 (ih _)
theorem Qb3 (l : List UInt8) : ∀ n, n ≤ 1048576 → Q24 n l = if dv n l ≤ 1048576 then some (dv n l) else none := by
 induction l with
 | nil => intro n h; simp [Q24, Qhk, h]
 | cons c r ih =>
  intro n h
  have e : dv n (c :: r) = dv (10 * n + (c.toNat - 48)) r := Q4k n c r
  rw [e, Q24]
  by_cases hg : 1048576 < 10 * n + (c.toNat - 48)
  ·have h1 := Q87 r (10 * n + (c.toNat - 48))
   have h2 : 0 < 10 ^ r.length := Nat.pow_pos (by omega)
   have h3 : 10 * n + (c.toNat - 48) ≤ (10 * n + (c.toNat - 48)) * 10 ^ r.length := Nat.le_mul_of_pos_right _ h2
   rw [if_pos hg, if_neg (by omega)]
  ·rw [if_neg hg]; exact ih _ (by omega)
theorem Qfg (l : List UInt8) : dv 0 (l.dropWhile (· == 48)) = dv 0 l := by
 induction l with
 | nil => rfl
 | cons c r ih =>
  by_cases h : c = 48
  ·subst h; rw [List.dropWhile_cons_of_pos (by rfl), ih]; rfl
  ·have : (c == (48 : UInt8)) = false := by simpa using h
   simp [List.dropWhile, this]
theorem Qpd {l : List UInt8} (hd : ∀ c ∈ l, Q9 c.toNat = true) (h : 7 < (l.dropWhile (· == 48)).length) : 1048576 < dv 0 l := by
 rw [← Qfg]
 match hm : l.dropWhile (· == 48), h with
 | c :: r, h =>
  have hne : ¬ c = 48 := by
   intro e
   have := List.head_dropWhile_not (p := (· == (48 : UInt8))) (l := l) (by rw [hm]; simp)
   simp [hm, e] at this
  have hmem : c ∈ l := by
   have : c ∈ l.dropWhile (· == 48) := by rw [hm]; simp
   exact (List.dropWhile_sublist _).subset this
  have hdc := hd c hmem
  simp only [Q9, Bool.and_eq_true, decide_eq_true_eq] at hdc
  have hn : ¬ c.toNat = 48 := fun e => hne (UInt8.toNat_inj.1 e)
  have h1 := Q87 r (10 * 0 + (c.toNat - 48))
  rw [Q4k]
  have h2 : 7 ≤ r.length := by simp at h; omega
  have h3 : 10 ^ 7 ≤ 10 ^ r.length := Nat.pow_le_pow_right (by omega) h2
  have h4 : 1 * 10 ^ r.length ≤ (10 * 0 + (c.toNat - 48)) * 10 ^ r.length := Nat.mul_le_mul_right _ (by omega)
  omega
theorem Qio (l : List UInt8) (hd : ∀ c ∈ l, Q9 c.toNat = true) : ∀ n, Lib.decFrom n l = some (dv n l) := by
 induction l with
 | nil => intro n; rfl
 | cons c r ih =>
  intro n
  have hdc := hd c (by simp)
  simp only [Q9, Bool.and_eq_true, decide_eq_true_eq] at hdc
  have : Lib.digitVal c = some (c.toNat - 48) := by unfold Lib.digitVal; rw [if_pos (by omega)]
  rw [Lib.decFrom, this, Q4k]
  simp only
  rw [ih (fun c h => hd c (by simp [h])), Nat.mul_comm]
theorem Qpb (l : List UInt8) (hd : ∀ c ∈ l, Q9 c.toNat = true) : Lib.atoi (48 :: l) = some ((dv 0 l : Nat) : Int) := by
 have h0 : Lib.decNat (48 :: l) = some (dv 0 l) := by
  unfold Lib.decNat
  rw [if_neg (by simp), Qio _ (fun c h => (List.mem_cons.1 h).elim (fun e => by rw [e]; rfl) (hd c))]
  rfl
 simp [Lib.atoi, h0]
theorem Qqy {l : List UInt8} (hd : ∀ c ∈ l, Q9 c.toNat = true) : ∀ c ∈ l.dropWhile (· == (48 : UInt8)), Q9 c.toNat = true :=
 fun c h => hd c ((List.dropWhile_sublist _).subset h)
def Q4f (l : List UInt8) : Bool := decide (1048576 < dv 0 l)
theorem Qhn (l : List UInt8) : Q4f l = (Q24 0 l).isNone := by
 rw [Qb3 l 0 (by omega), Q4f]; split
 ·simp; omega
 ·simp; omega
theorem Qgj {p : Int → Bool} {l : List UInt8} (h : Q1 p l = l.length) : ∀ c ∈ l, p c.toNat = true := by
 induction l with
 | nil => simp
 | cons c r ih =>
  simp only [Q1] at h
  split at h
  ·rename_i hc
   intro x hx
   rcases List.mem_cons.1 hx with rfl | hx
   ·exact hc
   ·exact ih (by simpa using h) x hx
  ·simp at h
theorem Qbn (p : Int → Bool) (l : List UInt8) : ∀ c ∈ l.take (Q1 p l), p c.toNat = true := by
 induction l with
 | nil => simp
 | cons c r ih =>
  simp only [Q1]
  split
  ·rename_i hc
   intro x hx
   rcases List.mem_cons.1 (by simpa using hx) with rfl | hx
   ·exact hc
   ·exact ih x hx
  ·simp
theorem Q7o {p : Int → Bool} {l : List UInt8} : ∀ {n : Nat}, n ≤ l.length → Q1 p (l.take n) = min n (Q1 p l) := by
 induction l with
 | nil => intro n h; simp [Q1]
 | cons c r ih =>
  intro n h
  cases n with
  | zero => simp [Q1]
  | succ n =>
   simp only [List.take_succ_cons, Q1]
   split
   ·rw [ih (by simpa using h)]; omega
   ·simp
def Qv : List (List UInt8) := [[60, 61], [33, 61], [59], [44], [58], [40], [41], [123], [125], [43], [45], [61], [60]]
def Q11 : List (List UInt8) → List UInt8 → List UInt8
 | [], _ => []
 | x :: r, s => if Lib.hasPrefix s x then x else Q11 r s
theorem Qek (a c : UInt8) (x r : List UInt8) : Lib.hasPrefix (c :: r) (a :: x) = (a == c && Lib.hasPrefix r x) := rfl
theorem Qf4 (r : List UInt8) : Lib.hasPrefix r [] = true := by cases r <;> rfl
theorem Qjt (a : UInt8) (x : List UInt8) : Lib.hasPrefix [] (a :: x) = false := rfl
theorem Q5y (l : List UInt8) : Q11 Qv l = l.take (Q0d l) := by
 match l with
 | [] => decide
 | [c] =>
  simp only [Q11, Qv, Qek, Qf4, Qjt, Bool.and_false, Bool.and_true, Q0d, Q1i]
  by_cases h1 : c = 59; · subst h1; decide
  by_cases h2 : c = 44; · subst h2; decide
  by_cases h3 : c = 58; · subst h3; decide
  by_cases h4 : c = 40; · subst h4; decide
  by_cases h5 : c = 41; · subst h5; decide
  by_cases h6 : c = 123; · subst h6; decide
  by_cases h7 : c = 125; · subst h7; decide
  by_cases h8 : c = 43; · subst h8; decide
  by_cases h9 : c = 45; · subst h9; decide
  by_cases h10 : c = 61; · subst h10; decide
  by_cases h11 : c = 60; · subst h11; decide
  simp [Ne.symm h1, Ne.symm h2, Ne.symm h3, Ne.symm h4, Ne.symm h5, Ne.symm h6, Ne.symm h7, Ne.symm h8, Ne.symm h9, Ne.symm h10, Ne.symm h11, h1, h2, h3, h4, h5, h6, h7, h8, h9, h10, h11]
 | c :: d :: r =>
  simp only [Q11, Qv, Qek, Qf4, Bool.and_true, Q0d, Q1i]
  by_cases hd : d = 61
  ·subst hd
   by_cases h11 : c = 60; · subst h11; simp
   by_cases h12 : c = 33; · subst h12; simp
   by_cases h1 : c = 59; · subst h1; simp
   by_cases h2 : c = 44; · subst h2; simp
   by_cases h3 : c = 58; · subst h3; simp
   by_cases h4 : c = 40; · subst h4; simp
   by_cases h5 : c = 41; · subst h5; simp
   by_cases h6 : c = 123; · subst h6; simp
   by_cases h7 : c = 125; · subst h7; simp
   by_cases h8 : c = 43; · subst h8; simp
   by_cases h9 : c = 45; · subst h9; simp
   by_cases h10 : c = 61; · subst h10; simp
   simp [Ne.symm h1, Ne.symm h2, Ne.symm h3, Ne.symm h4, Ne.symm h5, Ne.symm h6, Ne.symm h7, Ne.symm h8, Ne.symm h9, Ne.symm h10, Ne.symm h11, Ne.symm h12, h1, h2, h3, h4, h5, h6, h7, h8, h9, h10, h11, h12]
  ·by_cases h11 : c = 60; · subst h11; simp [hd, Ne.symm hd]
   by_cases h1 : c = 59; · subst h1; simp [hd]
   by_cases h2 : c = 44; · subst h2; simp [hd]
   by_cases h3 : c = 58; · subst h3; simp [hd]
   by_cases h4 : c = 40; · subst h4; simp [hd]
   by_cases h5 : c = 41; · subst h5; simp [hd]
   by_cases h6 : c = 123; · subst h6; simp [hd]
   by_cases h7 : c = 125; · subst h7; simp [hd]
   by_cases h8 : c = 43; · subst h8; simp [hd]
   by_cases h9 : c = 45; · subst h9; simp [hd]
   by_cases h10 : c = 61; · subst h10; simp [hd]
   simp [hd, Ne.symm hd, Ne.symm h1, Ne.symm h2, Ne.symm h3, Ne.symm h4, Ne.symm h5, Ne.symm h6, Ne.symm h7, Ne.symm h8, Ne.symm h9, Ne.symm h10, Ne.symm h11, h1, h2, h3, h4, h5, h6, h7, h8, h9, h10, h11]
theorem Q6g (l : List UInt8) : ∀ b, skip false (l.drop (skip b l)) = 0 := by
 induction l with
 | nil => intro b; simp [skip]
 | cons c r ih =>
  intro b
  cases b
  ·simp only [skip]
   split
   ·exact ih true
   ·split
    ·exact ih false
    ·rename_i h1 h2; simp [skip, h1, h2]
  ·simp only [skip]
   split
   ·exact ih false
   ·exact ih true
theorem Q31 {l : List UInt8} {kind n : Nat} (h : tok l = .ok (kind, n)) : 0 < n ∧ n ≤ l.length := by
 have hw := Q2n Q5 l
 have hs := Q6r l
 unfold tok at h
 (repeat' split at h) <;> simp at h <;> omega
theorem Qgu (f : Nat) : ∀ (g p : Nat) (l : List UInt8), l.length < f → l.length < g → Qz f p l = Qz g p l := by
 induction f with
 | zero => intro g p l h; omega
 | succ f ih =>
  intro g p l hf hg
  cases g with
  | zero => omega
  | succ g =>
   have hk := Q3m false l
   simp only [Qz]
   split
   ·rfl
   ·rename_i c r hd
    have hlen : (c :: r).length = l.length - skip false l := by rw [← hd]; simp
    cases ht : tok (c :: r) with
    | error x => rfl
    | ok x =>
     obtain ⟨kind, n⟩ := x
     have hp := Q31 ht
     simp only []
     rw [ih g _ _ (by simp only [List.length_drop]; omega) (by simp only [List.length_drop]; omega)]
def Q12 (p : Nat) (l : List UInt8) : Except (Nat × Nat) (List Tok) := Qz (l.length + 1) p l
def app (ts : List Tok) : Except (Nat × Nat) (List Tok) → Except (Nat × Nat) (List Tok)
 | .ok us => .ok (ts ++ us)
 | .error x => .error x
theorem Qbu (a b : List Tok) (x : Except (Nat × Nat) (List Tok)) : app a (app b x) = app (a ++ b) x := by
 cases x <;> simp [app]
theorem Qhg (x : Except (Nat × Nat) (List Tok)) : app [] x = x := by cases x <;> rfl
theorem Q4r (p : Nat) (l : List UInt8) : Q12 p l = Q12 (p + skip false l) (l.drop (skip false l)) := by
 have hk := Q3m false l
 rw [Q12, Q12, Qz, Qz, Q6g]
 simp only [List.drop_zero, Nat.add_zero]
 split
 ·rfl
 ·rename_i c r hd
  have hlen : (c :: r).length = l.length - skip false l := by rw [← hd]; simp
  cases ht : tok (c :: r) with
  | error x => rfl
  | ok x =>
   obtain ⟨kind, n⟩ := x
   have hp := Q31 ht
   simp only []
   rw [Qgu l.length (l.drop (skip false l)).length _ _ (by simp only [List.length_drop]; omega) (by simp only [List.length_drop]; omega)]
theorem Qd2 (p : Nat) : Q12 p [] = .ok [⟨3, [], p⟩] := by simp [Q12, Qz, skip]
theorem Qax {p : Nat} {l : List UInt8} {d e : Nat} (h0 : skip false l = 0) (hl : l ≠ []) (ht : tok l = .error (d, e)) : Q12 p l = .error (p + d, e) := by
 match l, hl with
 | c :: r, _ => simp [Q12, Qz, h0, ht]
theorem Q8s {p : Nat} {l : List UInt8} {kind n : Nat} (h0 : skip false l = 0) (hl : l ≠ []) (ht : tok l = .ok (kind, n)) :
  Q12 p l = app [⟨kind, l.take n, p⟩] (Q12 (p + n) (l.drop n)) := by
 match l, hl with
 | c :: r, _ =>
  have hp := Q31 ht
  have hle : (c :: r).length < (c :: r).length + 1 := by omega
  rw [Q12, Q12, Qz, h0]
  simp only [List.drop_zero, ht, Nat.add_zero]
  rw [Qgu (c :: r).length (((c :: r).drop n).length + 1) _ _ (by simp only [List.length_drop]; omega) (by omega)]
  cases Qz (((c :: r).drop n).length + 1) (p + n) ((c :: r).drop n) <;> simp [app]
theorem Qbm {l : List UInt8} (h : l.length ≤ 65536) : scan l = Q12 0 l := by rw [scan, if_neg (by omega), Q12]
def Qx (l : List UInt8) : Nat × Nat × Nat :=
 if Q1 Q0a l = 0 then
  if Q1 Q9 l < l.length then (0, Q1 Q9 l, 4)
  else if Q4f l then (0, 0, 2)
  else (1, 0, 0)
 else if 24 < l.length then (0, 0, 8)
 else (0, 0, 0)
theorem Qt1 (l : List UInt8) : (Qx l).2.1 ≤ l.length := by
 have := Q2n Q9 l
 unfold Qx; (repeat' split) <;> simp <;> omega
theorem Qcd {l : List UInt8} (h : 0 < Q1 Q5 l) :
  tok l = if (Qx (l.take (Q1 Q5 l))).2.2 = 0 then .ok ((Qx (l.take (Q1 Q5 l))).1, Q1 Q5 l)
   else .error ((Qx (l.take (Q1 Q5 l))).2.1, (Qx (l.take (Q1 Q5 l))).2.2) := by
 have hle := Q2n Q5 l
 have h1 := Q7o (p := Q0a) (l := l) hle
 have h2 := Q7o (p := Q9) (l := l) hle
 have h3 : (l.take (Q1 Q5 l)).length = Q1 Q5 l := by simp; omega
 by_cases a : Q1 Q0a l = 0
 ·by_cases b : Q1 Q9 l < Q1 Q5 l
  ·have hw : Qx (l.take (Q1 Q5 l)) = (0, Q1 Q9 l, 4) := by
    rw [Qx, h1, h2, h3, if_pos (by omega), if_pos (by omega), Nat.min_eq_right (by omega)]
   rw [hw, tok, if_neg (by omega), if_pos a, if_pos b]; rfl
  ·cases g : (Q24 0 (l.take (Q1 Q5 l))).isNone
   ·have hw : Qx (l.take (Q1 Q5 l)) = (1, 0, 0) := by
     rw [Qx, h1, h2, h3, if_pos (by omega), if_neg (by omega), Qhn, g]; rfl
    rw [hw, tok, if_neg (by omega), if_pos a, if_neg b, g]; rfl
   ·have hw : Qx (l.take (Q1 Q5 l)) = (0, 0, 2) := by
     rw [Qx, h1, h2, h3, if_pos (by omega), if_neg (by omega), Qhn, g]; rfl
    rw [hw, tok, if_neg (by omega), if_pos a, if_neg b, g]; rfl
 ·by_cases b : 24 < Q1 Q5 l
  ·have hw : Qx (l.take (Q1 Q5 l)) = (0, 0, 8) := by
    rw [Qx, h1, h3, if_neg (by omega), if_pos b]
   rw [hw, tok, if_neg (by omega), if_neg a, if_pos b]; rfl
  ·have hw : Qx (l.take (Q1 Q5 l)) = (0, 0, 0) := by
    rw [Qx, h1, h3, if_neg (by omega), if_neg b]
   rw [hw, tok, if_neg (by omega), if_neg a, if_neg b]; rfl
theorem Q85 {l : List UInt8} (h : Q1 Q5 l = 0) : tok l = if (Q11 Qv l) = [] then .error (0, 4) else .ok (2, (Q11 Qv l).length) := by
 have hs := Q6r l
 rw [Q5y]
 unfold tok
 rw [if_pos h]
 by_cases h0 : Q0d l = 0
 ·simp [h0]
 ·rw [if_neg h0, if_neg]
  ·rw [List.length_take, Nat.min_eq_left hs]
  ·intro e
   have := congrArg List.length e
   rw [List.length_take, List.length_nil] at this; omega
section
inductive Syn where
 | mk (kind : Int) (text : List UInt8) (num : Int) (pos : Int) (kids : List Syn)
def Syn.kind : Syn → Int | .mk k _ _ _ _ => k
def Syn.text : Syn → List UInt8 | .mk _ t _ _ _ => t
def Syn.num : Syn → Int | .mk _ _ n _ _ => n
def Syn.pos : Syn → Int | .mk _ _ _ p _ => p
def Syn.kids : Syn → List Syn | .mk _ _ _ _ l => l
def Q2r : Syn := .mk 0 [] 0 0 []
inductive Out (α : Type) where
 | none
 | err (pos : Int) (e : Nat)
 | ok (a : α) (i : Nat)
def Out.bind {α β : Type} (x : Out α) (f : α → Nat → Out β) : Out β :=
 match x with | .none => .none | .err p e => .err p e | .ok a i => f a i
def Out.map {α β : Type} (x : Out α) (f : α → β) : Out β := x.bind fun a i => .ok (f a) i
theorem Out.bind_ok (o : Out Syn) : o = o.bind fun x j => .ok x j := by cases o <;> rfl
theorem Out.bind_assoc {α β γ : Type} (o : Out α) (f : α → Nat → Out β) (g : β → Nat → Out γ) : (o.bind f).bind g = o.bind fun a i => (f a i).bind g := by cases o <;> rfl
def Qa7 : Tok := ⟨3, [], 0⟩
def tk (T : List Tok) (i : Nat) : Tok := T.getD i Qa7
def isW (T : List Tok) (ws : List (List UInt8)) (i : Nat) : Bool := (decide ((tk T i).kind = 2) || decide ((tk T i).kind = 0)) && ws.contains (tk T i).text
def nx (T : List Tok) (i : Nat) : Nat := if i + 1 < T.length then i + 1 else i
def fail {α : Type} (T : List Tok) (e : Nat) (i : Nat) : Out α := .err (tk T i).pos e
def need (T : List Tok) (s : List UInt8) (i : Nat) : Out Tok := if isW T [s] i then .ok (tk T i) (nx T i) else fail T 4 i
section
variable (res : List UInt8 → Bool) (T : List Tok)
def name (i : Nat) : Out Syn := if (tk T i).kind ≠ 0 ∨ res (tk T i).text = true then fail T 4 i else .ok (.mk 8 (tk T i).text 0 (tk T i).pos []) (nx T i)
def number (i : Nat) : Out Syn := if (tk T i).kind ≠ 1 then fail T 4 i else .ok (.mk 9 [] (dv 0 (tk T i).text : Nat) (tk T i).pos []) (nx T i)
abbrev Rd := Nat → Nat → Out Syn
def within (r : Rd) : Rd := fun lv i => if 128 < lv + 1 then fail T 12 i else r (lv + 1) i
def parens (r : Rd) : Rd := fun lv i => (need T [40] i).bind fun _ i => (within T r lv i).bind fun x i => (need T [41] i).bind fun _ i => .ok x i
def Qt : List Rd → Nat → Nat → Out (List Syn)
 | [], _, i => .ok [] i
 | r :: rs, lv, i => (r lv i).bind fun x i => (argsMore rs lv i).bind fun xs i => .ok (x :: xs) i
where
 argsMore : List Rd → Nat → Nat → Out (List Syn)
 | [], _, i => .ok [] i
 | r :: rs, lv, i => (need T [44] i).bind fun _ i => (r lv i).bind fun x i => (argsMore rs lv i).bind fun xs i => .ok (x :: xs) i
def arguments (word : Tok) (rs : List Rd) : Rd := fun lv i =>
 (need T [40] i).bind fun _ i => if 128 < lv + 1 then fail T 12 i else (Qt T rs (lv + 1) i).bind fun xs i => (need T [41] i).bind fun _ i => .ok (.mk 10 word.text 0 word.pos xs) i
def binary (op : List UInt8) (num : Int) (a b : Syn) : Syn := .mk 11 op num a.pos [a, b]
def Q1b (r : Rd) (ops : List (List UInt8)) (lv : Nat) : Nat → Syn → Nat → Out Syn
 | 0, _, _ => .none
 | g + 1, x, i => if isW T ops i then (r lv (nx T i)).bind fun y j => Q1b r ops lv g (binary (tk T i).text 0 x y) j else .ok x i
def left (r : Rd) (ops : List (List UInt8)) : Rd := fun lv i => (r lv i).bind fun x i => Q1b T r ops lv (T.length + 1) x i
inductive NT where
 | cond | conj | neg | sum | unit | scheme | term | factor | atom | formula | disj | meet | lit
deriving DecidableEq
def kNot : List UInt8 := [110, 111, 116]
def kOr : List UInt8 := [111, 114]
def kAnd : List UInt8 := [97, 110, 100]
def Q1q : Nat → List Syn → Nat → Out (List Syn)
 | 0, _, _ => .none
 | g + 1, xs, i => if isW T [[44]] i then (number T (nx T i)).bind fun y j => Q1q g (xs ++ [y]) j else .ok xs i
def setR (i : Nat) : Out Syn :=
 if isW T [[101, 118, 101, 114, 121, 111, 110, 101]] i then .ok (.mk 14 (tk T i).text 0 (tk T i).pos []) (nx T i)
 else (need T [123] i).bind fun _ j =>
  if isW T [[125]] j then .ok (.mk 14 [] 0 (tk T i).pos []) (nx T j)
  else (number T j).bind fun x j => (Q1q T (T.length + 1) [x] j).bind fun xs j => (need T [125] j).bind fun _ j => .ok (.mk 14 [] 0 (tk T i).pos xs) j
def notR (r : Rd) : Rd := fun lv i => (within T r lv (nx T i)).bind fun x j => .ok (.mk 12 [] 0 (tk T i).pos [x]) j
def rd : Nat → NT → Rd
 | 0, _ => fun _ _ => .none
 | f + 1, .cond => left T (rd f .conj) [kOr]
 | f + 1, .conj => left T (rd f .neg) [kAnd]
 | f + 1, .neg => fun lv i =>
  if isW T [kNot] i then notR T (rd f .neg) lv i
  else if isW T [[97, 108, 108], [115, 111, 109, 101]] i then
   (name res T (nx T i)).bind fun v j => (need T [58] j).bind fun _ j => (within T (rd f .cond) lv j).bind fun x j => .ok (.mk 13 (tk T i).text 0 (tk T i).pos [v, x]) j
  else (rd f .sum lv i).bind fun x j =>
   if isW T [[61], [33, 61], [60], [60, 61]] j then (rd f .sum lv (nx T j)).bind fun y l => .ok (binary (tk T j).text 0 x y) l
   else .ok x j
 | f + 1, .sum => left T (rd f .unit) [[43], [45]]
 | f + 1, .unit => fun lv i =>
  if (tk T i).kind = 1 then number T i
  else if isW T [[105, 110], [111, 117, 116]] i then arguments T (tk T i) [rd f .sum] lv (nx T i)
  else if isW T [[104, 101, 97, 114, 115]] i then arguments T (tk T i) [rd f .sum, rd f .sum] lv (nx T i)
  else if isW T [[99, 111, 117, 110, 116]] i then
   (name res T (nx T i)).bind fun v j => (parens T (rd f .cond) lv j).bind fun x j => .ok (.mk 13 (tk T i).text 0 (tk T i).pos [v, x]) j
  else if isW T [[40]] i then parens T (rd f .cond) lv i
  else name res T i
 | f + 1, .scheme => left T (rd f .term) [kOr]
 | f + 1, .term => left T (rd f .factor) [kAnd]
 | f + 1, .factor => fun lv i => (rd f .atom lv i).bind fun x j =>
  if isW T [[116, 104, 101, 110]] j then (number T (nx T j)).bind fun n j => (within T (rd f .factor) lv j).bind fun y j => .ok (binary [116, 104, 101, 110] n.num x y) j
  else .ok x j
 | f + 1, .atom => fun lv i =>
  if isW T [[99, 114, 97, 115, 104], [115, 101, 110, 100], [114, 101, 99, 101, 105, 118, 101], [111, 109, 105, 116], [112, 97, 114, 116, 105, 116, 105, 111, 110]] i then arguments T (tk T i) [fun _ => number T] lv (nx T i)
  else if isW T [[115, 110, 97, 112, 115, 104, 111, 116]] i then .ok (.mk 10 (tk T i).text 0 (tk T i).pos []) (nx T i)
  else if isW T [[103, 114, 97, 112, 104, 115]] i then arguments T (tk T i) [rd f .cond] lv (nx T i)
  else if isW T [[40]] i then parens T (rd f .scheme) lv i
  else name res T i
 | f + 1, .formula => fun lv i => (rd f .disj lv i).bind fun x j =>
  if isW T [[117, 110, 116, 105, 108]] j then (within T (rd f .formula) lv (nx T j)).bind fun y j => .ok (binary [117, 110, 116, 105, 108] 0 x y) j
  else .ok x j
 | f + 1, .disj => left T (rd f .meet) [kOr]
 | f + 1, .meet => left T (rd f .lit) [kAnd]
 | f + 1, .lit => fun lv i =>
  if isW T [kNot] i then notR T (rd f .lit) lv i
  else if isW T [[116, 114, 117, 101]] i then .ok (.mk 10 (tk T i).text 0 (tk T i).pos []) (nx T i)
  else if isW T [[40]] i then parens T (rd f .formula) lv i
  else if isW T [[105, 110, 112, 117, 116], [104, 101, 97, 114, 100], [100, 101, 99, 105, 100, 101, 100]] i then arguments T (tk T i) [fun _ => number T, fun _ => number T] lv (nx T i)
  else if isW T [[103, 105, 118, 101, 110], [102, 97, 117, 108, 116, 121], [97, 116]] i then arguments T (tk T i) [fun _ => number T] lv (nx T i)
  else if isW T [[75]] i then arguments T (tk T i) [fun _ => number T, rd f .formula] lv (nx T i)
  else if isW T [[69], [68], [67]] i then arguments T (tk T i) [fun _ => setR T, rd f .formula] lv (nx T i)
  else if isW T [[110, 101, 120, 116], [97, 108, 119, 97, 121, 115], [101, 118, 101, 110, 116, 117, 97, 108, 108, 121]] i then arguments T (tk T i) [rd f .formula] lv (nx T i)
  else fail T 4 i
def part (f : Nat) (kind : Int) : Rd := fun lv i => (rd res T f .cond lv (nx T i)).bind fun x j => .ok (.mk kind [] 0 (tk T i).pos [x]) j
def Q69 (f : Nat) (w : List UInt8) (kind : Int) (xs : List Syn) : Nat → Nat → Out (List Syn) := fun lv i =>
 if isW T [w] i then (part res T f kind lv i).bind fun x j => .ok (xs ++ [x]) j else .ok xs i
def declaration (f : Nat) : Rd := fun lv i =>
 (if isW T [[116, 97, 115, 107]] i then
  (name res T (nx T i)).bind fun nm j => (need T [105, 110, 112, 117, 116, 115] j).bind fun _ j => (number T j).bind fun a j => (need T [111, 117, 116, 112, 117, 116, 115] j).bind fun _ j =>
  (number T j).bind fun b j => (Q69 res T f [119, 104, 101, 114, 101] 2 [b] lv j).bind fun xs j =>
  if isW T [[97, 108, 108, 111, 119]] j then (part res T f 3 lv j).bind fun y j => (Q69 res T f [99, 97, 108, 109] 4 (xs ++ [y]) lv j).bind fun ys j => .ok (Syn.mk 1 nm.text a.num (tk T i).pos ys) j
  else fail T 4 j
 else if isW T [[97, 100, 118, 101, 114, 115, 97, 114, 121]] i then
  (name res T (nx T i)).bind fun nm j => (need T [61] j).bind fun _ j => (rd res T f .scheme lv j).bind fun x j => .ok (Syn.mk 5 nm.text 0 (tk T i).pos [x]) j
 else if isW T [[102, 111, 114, 109, 117, 108, 97]] i then
  (name res T (nx T i)).bind fun nm j => (need T [61] j).bind fun _ j => (rd res T f .formula lv j).bind fun x j => .ok (Syn.mk 6 nm.text 0 (tk T i).pos [x]) j
 else if isW T [[112, 114, 111, 98, 108, 101, 109]] i then
  (name res T (nx T i)).bind fun nm j => (need T [61] j).bind fun _ j => (name res T j).bind fun a j => (need T [117, 110, 100, 101, 114] j).bind fun _ j => (name res T j).bind fun b j =>
  (need T [114, 111, 117, 110, 100, 115] j).bind fun _ j => (number T j).bind fun n j => .ok (Syn.mk 7 nm.text n.num (tk T i).pos [a, b]) j
 else fail T 4 i).bind fun x j => (need T [59] j).bind fun _ j => .ok x j
def Q6v (f : Nat) (lv : Nat) : Nat → List Syn → Nat → Out (List Syn)
 | 0, _, _ => .none
 | g + 1, xs, i => if (tk T i).kind = 3 then .ok xs i else (declaration res T f lv i).bind fun x j => Q6v f lv g (xs ++ [x]) j
def program (f : Nat) : Rd := fun lv i =>
 (need T [112, 114, 111, 99, 101, 115, 115, 101, 115] i).bind fun t j => (number T j).bind fun n j => (need T [59] j).bind fun _ j =>
 (Q6v res T f lv (T.length + 1) [] j).bind fun xs j => .ok (.mk 0 [] n.num t.pos xs) j
def whole (r : Rd) : Out Syn := (r 0 0).bind fun x i => if (tk T i).kind = 3 then .ok x i else fail T 4 i
end
end
mutual
inductive Twin (P : Int → Int → Prop) : Syn → Syn → Prop
 | mk {kd : Int} {tx : List UInt8} {n a b : Int} {k l : List Syn} (hp : P a b) (h : TwinL P k l) : Twin P (.mk kd tx n a k) (.mk kd tx n b l)
inductive TwinL (P : Int → Int → Prop) : List Syn → List Syn → Prop
 | nil : TwinL P [] []
 | cons {x y : Syn} {k l : List Syn} (h : Twin P x y) (hr : TwinL P k l) : TwinL P (x :: k) (y :: l)
end
theorem TwinL.length {P : Int → Int → Prop} : ∀ {k l : List Syn}, TwinL P k l → k.length = l.length
 | _, _, .nil => rfl
 | _, _, .cons _ hr => by rw [List.length_cons, List.length_cons, hr.length]
theorem TwinL.get {P : Int → Int → Prop} : ∀ {k l : List Syn}, TwinL P k l → ∀ i (h : i < k.length) (h' : i < l.length), Twin P k[i] l[i]
 | _, _, .nil, i, h, _ => absurd h (Nat.not_lt_zero _)
 | _, _, .cons hx hr, 0, _, _ => hx
 | _, _, .cons hx hr, i + 1, h, h' => hr.get i (by simpa using h) (by simpa using h')
theorem TwinL.add {P : Int → Int → Prop} : ∀ {k l : List Syn}, TwinL P k l → ∀ {x y : Syn}, Twin P x y → TwinL P (k ++ [x]) (l ++ [y])
 | _, _, .nil, _, _, h => .cons h .nil
 | _, _, .cons hx hr, _, _, h => .cons hx (hr.add h)
mutual
theorem Twin.symm {P : Int → Int → Prop} : ∀ {x y : Syn}, Twin P x y → Twin (fun a b => P b a) y x
 | _, _, .mk hp h => .mk hp (TwinL.symm h)
theorem TwinL.symm {P : Int → Int → Prop} : ∀ {k l : List Syn}, TwinL P k l → TwinL (fun a b => P b a) l k
 | _, _, .nil => .nil
 | _, _, .cons h hr => .cons (Twin.symm h) (TwinL.symm hr)
end
mutual
theorem Twin.trans {P Q R : Int → Int → Prop} (hPQ : ∀ a b c, P a b → Q b c → R a c) : ∀ {x y z : Syn}, Twin P x y → Twin Q y z → Twin R x z
 | _, _, _, .mk hp h, .mk hq h' => .mk (hPQ _ _ _ hp hq) (TwinL.trans hPQ h h')
theorem TwinL.trans {P Q R : Int → Int → Prop} (hPQ : ∀ a b c, P a b → Q b c → R a c) : ∀ {k l m : List Syn}, TwinL P k l → TwinL Q l m → TwinL R k m
 | _, _, _, .nil, .nil => .nil
 | _, _, _, .cons h hr, .cons h' hr' => .cons (Twin.trans hPQ h h') (TwinL.trans hPQ hr hr')
end
def Q0c (kind : Int) (s : List UInt8) : Bool :=
 if kind = 3 then s.isEmpty
 else if kind = 2 then decide (s ∈ Qv)
 else !s.isEmpty && decide (Q1 Q5 s = s.length) && decide ((Qx s).2.2 = 0) && decide (((Qx s).1 : Int) = kind)
def Q6l (kind : Int) : Bool := decide (kind = 0) || decide (kind = 1)
def gap (p t : Tok) : Bool := (Q6l p.kind && Q6l t.kind) || (decide (p.text = [60]) && decide (t.text = [61]))
def Q44 (last : Bool) (t : Tok) : Nat :=
 if t.kind < 0 ∨ 3 < t.kind then 1 else if Q0c t.kind t.text = false then 3 else if t.kind = 3 ∧ last = false then 14 else 0
def Q7f : List Tok → Nat
 | [] => 0
 | t :: r => if Q44 r.isEmpty t = 0 then Q7f r else Q44 r.isEmpty t
def Q4d : Option Tok → List Tok → List UInt8
 | _, [] => []
 | none, t :: r => t.text ++ Q4d (some t) r
 | some p, t :: r => (if gap p t then [32] else []) ++ (t.text ++ Q4d (some t) r)
end Go.Proofs.YtplbfmcgddnkeaaGreatDoor
