/- Walks of functions, and plain facts. -/
import Derived.Test.YtplbfmcgddnkeaaGreatDoorC03
import Derived.Test.YtplbfmcgddnkeaaGreatDoorC01
import Derived.Test.YtplbfmcgddnkeaaGreatDoorC15
import Derived.Test.YtplbfmcgddnkeaaGreatDoorC05
import Derived.Test.YtplbfmcgddnkeaaGreatDoorC09
set_option linter.unusedVariables false
set_option linter.unusedSimpArgs false
set_option maxHeartbeats 20000000
set_option maxRecDepth 100000
namespace Go.Proofs.YtplbfmcgddnkeaaGreatDoor
theorem Qhl {l : List Syn} (h : (match l with | [] => false | [b] => Q0b 3 b | [b, c] => Q0b 3 b && Q0b 4 c | (_ :: _ :: _ :: _) => false) = true) :
  ∃ b c, l = b :: c ∧ Q0b 3 b = true ∧ (c = [] ∨ ∃ x, c = [x] ∧ Q0b 4 x = true) := by
 match l, h with
 | [b], h => exact ⟨b, [], rfl, h, .inl rfl⟩
 | [b, c], h =>
  simp only [Bool.and_eq_true] at h
  exact ⟨b, [c], rfl, h.1, .inr ⟨c, rfl, h.2⟩⟩
def Tsk (l : List Syn) : Prop := ∃ a w b c, l = a :: (w ++ b :: c) ∧ Q2 a = true ∧ (w = [] ∨ ∃ x, w = [x] ∧ Q0b 2 x = true) ∧ Q0b 3 b = true ∧ (c = [] ∨ ∃ x, c = [x] ∧ Q0b 4 x = true)
theorem Qm2 {l : List Syn} (h : Q3x l = true) : Tsk l := by
 unfold Q3x at h
 match l, h with
 | [], h => cases h
 | [a], h => simp at h
 | a :: b :: r, h =>
  simp only [Bool.and_eq_true] at h
  obtain ⟨ha, h⟩ := h
  by_cases hb : b.kind = 2
  ·rw [if_pos hb] at h
   by_cases hp : Q0b 2 b = true
   ·rw [if_pos hp] at h
    obtain ⟨x, c, rfl, h1, h2⟩ := Qhl (l := r) (by cases r with | nil => exact h | cons _ r => cases r with | nil => exact h | cons _ r => cases r <;> exact h)
    exact ⟨a, [b], x, c, rfl, ha, .inr ⟨b, rfl, hp⟩, h1, h2⟩
   ·rw [if_neg hp] at h; cases h
  ·rw [if_neg hb] at h
   obtain ⟨x, c, e, h1, h2⟩ := Qhl (l := b :: r) (by cases r with | nil => exact h | cons _ r => cases r <;> exact h)
   exact ⟨a, [], x, c, by rw [e]; rfl, ha, .inl rfl, h1, h2⟩
theorem Qrq {k : Int} {x : Syn} (h : Q0b k x = true) : ∃ q a, x = .mk k [] 0 q [a] ∧ okc a = true := by
 obtain ⟨k', t, n, q, ks⟩ := x
 unfold Q0b at h
 simp only [Syn.kind, Syn.text, Syn.num, Syn.kids, Bool.and_eq_true, decide_eq_true_eq, beq_iff_eq] at h
 obtain ⟨⟨⟨h1, h2⟩, h3⟩, h4⟩ := h
 match ks, h4 with
 | [a], h4 =>
  obtain rfl : k' = k := of_decide_eq_true h1
  obtain rfl : n = 0 := of_decide_eq_true h3
  subst h2
  exact ⟨q, a, rfl, h4⟩
theorem Qq5 {t : Syn} (h : Q2x t = true) : Q1h t.text = true ∧ (0 ≤ t.num ∧ t.num ≤ 1048576) ∧
  ((t.kind = 1 ∧ Tsk t.kids) ∨ (t.kind = 5 ∧ t.num = 0 ∧ ∃ a, t.kids = [a] ∧ oks a = true) ∨ (t.kind = 6 ∧ t.num = 0 ∧ ∃ a, t.kids = [a] ∧ okf a = true) ∨ (t.kind = 7 ∧ ∃ a b, t.kids = [a, b] ∧ isNm a = true ∧ isNm b = true)) := by
 unfold Q2x natB at h
 simp only [Bool.and_eq_true, decide_eq_true_eq] at h
 obtain ⟨⟨h1, h2⟩, h3⟩ := h
 refine ⟨h1, h2, ?_⟩
 by_cases k1 : t.kind = 1
 ·rw [if_pos k1] at h3; exact .inl ⟨k1, Qm2 h3⟩
 rw [if_neg k1] at h3
 by_cases k5 : t.kind = 5
 ·rw [if_pos k5] at h3
  simp only [Bool.and_eq_true, decide_eq_true_eq] at h3
  refine .inr (.inl ⟨k5, h3.1, ?_⟩)
  obtain ⟨-, h3⟩ := h3
  split at h3
  ·rename_i a e; exact ⟨a, e, h3⟩
  ·cases h3
 rw [if_neg k5] at h3
 by_cases k6 : t.kind = 6
 ·rw [if_pos k6] at h3
  simp only [Bool.and_eq_true, decide_eq_true_eq] at h3
  refine .inr (.inr (.inl ⟨k6, h3.1, ?_⟩))
  obtain ⟨-, h3⟩ := h3
  split at h3
  ·rename_i a e; exact ⟨a, e, h3⟩
  ·cases h3
 rw [if_neg k6] at h3
 by_cases k7 : t.kind = 7
 ·rw [if_pos k7] at h3
  refine .inr (.inr (.inr ⟨k7, ?_⟩))
  split at h3
  ·rename_i a b e
   simp only [Bool.and_eq_true] at h3
   exact ⟨a, b, e, h3⟩
  ·cases h3
 ·rw [if_neg k7] at h3; cases h3
theorem Qlr {t : Syn} (h : Q6j t = true) : t.kind = 0 ∧ t.text = [] ∧ (0 ≤ t.num ∧ t.num ≤ 1048576) ∧ ∀ x ∈ t.kids, Q2x x = true := by
 unfold Q6j natB at h
 simp only [Bool.and_eq_true, decide_eq_true_eq, beq_iff_eq, List.all_eq_true] at h
 exact ⟨h.1.1.1, h.1.1.2, h.1.2, h.2⟩
theorem Qin {a b : Syn} {w c : List Syn} (hw : w = [] ∨ ∃ x, w = [x] ∧ Q0b 2 x = true) (hb : Q0b 3 b = true) (hc : c = [] ∨ ∃ x, c = [x] ∧ Q0b 4 x = true) :
  ∀ x ∈ w ++ b :: c, ∃ k : Int, (k = 2 ∨ k = 3 ∨ k = 4) ∧ Q0b k x = true := by
 intro x hx
 rcases List.mem_append.1 hx with hx | hx
 ·rcases hw with rfl | ⟨y, rfl, hy⟩
  ·cases hx
  ·rw [List.mem_singleton.1 hx]; exact ⟨2, .inl rfl, hy⟩
 ·rcases List.mem_cons.1 hx with rfl | hx
  ·exact ⟨3, .inr (.inl rfl), hb⟩
  ·rcases hc with rfl | ⟨y, rfl, hy⟩
   ·cases hx
   ·rw [List.mem_singleton.1 hx]; exact ⟨4, .inr (.inr rfl), hy⟩
section
structure Asc (n : Int) (T : List Tok) : Prop where
 mono : ∀ i j, i ≤ j → j < T.length → (tk T i).pos ≤ (tk T j).pos
 low : ∀ i, i < T.length → 0 ≤ (tk T i).pos
 high : ∀ i, i < T.length → (tk T i).pos ≤ n
 inn : ∀ i, i < T.length → (tk T i).kind ≠ 3 → (tk T i).pos < n
inductive Ord (n : Int) : Syn → Prop
 | mk {kd : Int} {tx : List UInt8} {m a : Int} {k : List Syn} (h : a < n) (hp : ∀ z ∈ k, a ≤ z.pos) (hk : ∀ z ∈ k, Ord n z) : Ord n (.mk kd tx m a k)
def Q05 {α : Type} (n : Int) (T : List Tok) (P : α → Nat → Prop) (i : Nat) (o : Out α) : Prop :=
 match o with | .none => True | .err p e => 0 ≤ p ∧ p ≤ n ∧ (e = 4 ∨ e = 12) | .ok a j => i ≤ j ∧ j < T.length ∧ P a j
section
variable {n : Int} {T : List Tok} {res : List UInt8 → Bool} {lv i : Nat} {b : Int}
theorem Q05.bind {α β : Type} {P : α → Nat → Prop} {Q : β → Nat → Prop} {o : Out α} {f : α → Nat → Out β} {k : Nat} (h : Q05 n T P i o) (hk : k ≤ i) (hf : ∀ a j, i ≤ j → j < T.length → P a j → Q05 n T Q k (f a j)) : Q05 n T Q k (o.bind f) := by
 cases o with
 | none => trivial
 | err p e => exact h
 | ok a j => exact hf a j h.1 h.2.1 h.2.2
theorem Q05.back {α : Type} {P Q : α → Nat → Prop} {o : Out α} {k : Nat} (h : Q05 n T P i o) (hk : k ≤ i) (hf : ∀ a j, i ≤ j → j < T.length → P a j → Q a j) : Q05 n T Q k o := by
 cases o with
 | none => trivial
 | err p e => exact h
 | ok a j => exact ⟨Nat.le_trans hk h.1, h.2.1, hf a j h.1 h.2.1 h.2.2⟩
theorem Q1j : i ≤ nx T i := by unfold nx; split <;> omega
theorem Q1p (h : i < T.length) : nx T i < T.length := by unfold nx; split <;> omega
theorem Q3v {α : Type} {P : α → Nat → Prop} {e j k : Nat} (hA : Asc n T) (hj : j < T.length) (he : e = 4 ∨ e = 12 := by decide) : Q05 n T P k (fail T e j : Out α) := ⟨hA.low j hj, hA.high j hj, he⟩
theorem Q0x {ws : List (List UInt8)} (h : isW T ws i = true) : (tk T i).kind ≠ 3 := by
 unfold isW at h
 simp only [Bool.and_eq_true, Bool.or_eq_true, decide_eq_true_eq] at h
 omega
def SynG (n : Int) (T : List Tok) (b : Int) (x : Syn) (j : Nat) : Prop := b ≤ x.pos ∧ x.pos ≤ (tk T j).pos ∧ Ord n x
def Q16 (n : Int) (b : Int) (xs : List Syn) (_ : Nat) : Prop := ∀ z ∈ xs, b ≤ z.pos ∧ Ord n z
theorem Q1w {w : List UInt8} (hA : Asc n T) (hi : i < T.length) : Q05 n T (fun t j => t = tk T i ∧ t.pos < n ∧ j = nx T i) i (need T w i) := by
 unfold need
 split
 ·rename_i h
  exact ⟨Q1j, Q1p hi, rfl, hA.inn i hi (Q0x h), rfl⟩
 ·exact Q3v hA hi
theorem Q5s {kd m a : Int} {tx : List UInt8} {j : Nat} (hb : b ≤ a) (hj : a ≤ (tk T j).pos) (hn : a < n) : SynG n T b (.mk kd tx m a []) j :=
 ⟨hb, hj, .mk hn (fun z h => (List.not_mem_nil h).elim) (fun z h => (List.not_mem_nil h).elim)⟩
theorem Q2y {kd m a : Int} {tx : List UInt8} {k : List Syn} {j l : Nat} (hb : b ≤ a) (hj : a ≤ (tk T j).pos) (hn : a < n) (hk : Q16 n a k l) : SynG n T b (.mk kd tx m a k) j :=
 ⟨hb, hj, .mk hn (fun z h => (hk z h).1) (fun z h => (hk z h).2)⟩
theorem syns1 {x : Syn} {j l : Nat} (h : SynG n T b x j) : Q16 n b [x] l := fun z hz => by rw [List.mem_singleton.1 hz]; exact ⟨h.1, h.2.2⟩
theorem Q16.add {x : Syn} {xs : List Syn} {j k l : Nat} (hx : Q16 n b xs j) (h : SynG n T b x k) : Q16 n b (xs ++ [x]) l := fun z hz => by
 rcases List.mem_append.1 hz with hz | hz
 ·exact hx z hz
 ·rw [List.mem_singleton.1 hz]; exact ⟨h.1, h.2.2⟩
theorem Q16.cons {x : Syn} {xs : List Syn} {j k l : Nat} (h : SynG n T b x k) (hx : Q16 n b xs j) : Q16 n b (x :: xs) l := fun z hz => by
 rcases List.mem_cons.1 hz with rfl | hz
 ·exact ⟨h.1, h.2.2⟩
 ·exact hx z hz
theorem SynG.on {x : Syn} {j k : Nat} (hA : Asc n T) (h : SynG n T b x j) (hk : j ≤ k) (hl : k < T.length) : SynG n T b x k := ⟨h.1, Int.le_trans h.2.1 (hA.mono j k hk hl), h.2.2⟩
theorem SynG.low {x : Syn} {j : Nat} {c : Int} (h : SynG n T b x j) (hc : c ≤ b) : SynG n T c x j := ⟨Int.le_trans hc h.1, h.2⟩
theorem Q3g (hA : Asc n T) (hi : i < T.length) (hb : b ≤ (tk T i).pos) : Q05 n T (SynG n T b) i (name res T i) := by
 unfold name
 split
 ·exact Q3v hA hi
 ·rename_i h
  exact ⟨Q1j, Q1p hi, Q5s hb (hA.mono _ _ Q1j (Q1p hi)) (hA.inn i hi (by omega))⟩
theorem Q3w (hA : Asc n T) (hi : i < T.length) (hb : b ≤ (tk T i).pos) : Q05 n T (SynG n T b) i (number T i) := by
 unfold number
 split
 ·exact Q3v hA hi
 ·rename_i h
  exact ⟨Q1j, Q1p hi, Q5s hb (hA.mono _ _ Q1j (Q1p hi)) (hA.inn i hi (by omega))⟩
def GR (n : Int) (T : List Tok) (r : Rd) : Prop := ∀ lv i b, i < T.length → b ≤ (tk T i).pos → Q05 n T (SynG n T b) i (r lv i)
theorem Q75 {r : Rd} (hA : Asc n T) (h : GR n T r) (hi : i < T.length) (hb : b ≤ (tk T i).pos) : Q05 n T (SynG n T b) i (within T r lv i) := by
 unfold within
 split
 ·exact Q3v hA hi
 ·exact h _ _ _ hi hb
theorem upto {j : Nat} (hA : Asc n T) (hb : b ≤ (tk T i).pos) (hj : i ≤ j) (hl : j < T.length) : b ≤ (tk T j).pos := Int.le_trans hb (hA.mono i j hj hl)
theorem Q9l {r : Rd} (hA : Asc n T) (h : GR n T r) (hi : i < T.length) (hb : b ≤ (tk T i).pos) : Q05 n T (SynG n T b) i (parens T r lv i) :=
 (Q1w hA hi).bind (Nat.le_refl _) fun _ j hj hl _ => (Q75 hA h hl (upto hA hb hj hl)).bind hj fun x k hk hl2 hx => (Q1w hA hl2).bind (Nat.le_trans hj hk) fun _ m hm hl3 _ => ⟨by omega, hl3, hx.on hA hm hl3⟩
theorem Qmy {rs : List Rd} (hA : Asc n T) (hr : ∀ r ∈ rs, GR n T r) : ∀ i, i < T.length → b ≤ (tk T i).pos → Q05 n T (Q16 n b) i (Qt.argsMore T rs lv i) := by
 induction rs with
 | nil => intro i hi hb; exact ⟨Nat.le_refl _, hi, fun z h => (List.not_mem_nil h).elim⟩
 | cons r rs ih =>
  intro i hi hb
  exact (Q1w hA hi).bind (Nat.le_refl _) fun _ j hj hl _ => (hr r (List.mem_cons_self ..) _ _ _ hl (upto hA hb hj hl)).bind hj fun x k hk hl2 hx => (ih (fun r h => hr r (List.mem_cons_of_mem _ h)) _ hl2 (upto hA hb (Nat.le_trans hj hk) hl2)).bind (Nat.le_trans hj hk) fun xs m hm hl3 hxs => ⟨by omega, hl3, Q16.cons hx hxs⟩
theorem Qkk {rs : List Rd} (hA : Asc n T) (hr : ∀ r ∈ rs, GR n T r) (hi : i < T.length) (hb : b ≤ (tk T i).pos) : Q05 n T (Q16 n b) i (Qt T rs lv i) := by
 cases rs with
 | nil => exact ⟨Nat.le_refl _, hi, fun z h => (List.not_mem_nil h).elim⟩
 | cons r rs =>
  exact (hr r (List.mem_cons_self ..) _ _ _ hi hb).bind (Nat.le_refl _) fun x k hk hl2 hx => (Qmy hA (fun r h => hr r (List.mem_cons_of_mem _ h)) _ hl2 (upto hA hb hk hl2)).bind hk fun xs m hm hl3 hxs => ⟨by omega, hl3, Q16.cons hx hxs⟩
theorem Qbx {rs : List Rd} {w : Tok} (hA : Asc n T) (hr : ∀ r ∈ rs, GR n T r) (hi : i < T.length) (hb : b ≤ w.pos) (hw : w.pos ≤ (tk T i).pos) (hn : w.pos < n) : Q05 n T (SynG n T b) i (arguments T w rs lv i) :=
 (Q1w hA hi).bind (Nat.le_refl _) fun _ j hj hl _ => by
  split
  ·exact Q3v hA hl
  ·exact (Qkk hA hr hl (upto hA hw hj hl)).bind hj fun xs k hk hl2 hxs => (Q1w hA hl2).bind (Nat.le_trans hj hk) fun _ m hm hl3 _ => ⟨by omega, hl3, Q2y hb (upto hA hw (by omega) hl3) hn (l := k) hxs⟩
theorem Q9s {op : List UInt8} {num : Int} {x y : Syn} {j k l : Nat} (hx : SynG n T b x j) (hy : SynG n T x.pos y k) (hl : x.pos ≤ (tk T l).pos) : SynG n T b (binary op num x y) l := by
 have ho : x.pos < n := by
  have := hx.2.2
  cases this with
  | mk h _ _ => exact h
 exact Q2y (l := 0) hx.1 hl ho fun z hz => by
  rcases List.mem_cons.1 hz with rfl | hz
  ·exact ⟨Int.le_refl _, hx.2.2⟩
  ·rw [List.mem_singleton.1 hz]; exact ⟨hy.1, hy.2.2⟩
theorem Qis {r : Rd} {ops : List (List UInt8)} (hA : Asc n T) (h : GR n T r) (g : Nat) : ∀ x i, i < T.length → SynG n T b x i → Q05 n T (SynG n T b) i (Q1b T r ops lv g x i) := by
 induction g with
 | zero => intro x i _ _; trivial
 | succ g ih =>
  intro x i hi hx
  unfold Q1b
  split
  ·have h1 := Q1p (T := T) hi
   have h2 := Q1j (T := T) (i := i)
   exact (h _ _ x.pos h1 (upto hA hx.2.1 h2 h1)).bind h2 fun y j hj hl hy => (ih _ _ hl (Q9s hx hy (upto hA hx.2.1 (by omega) hl))).back (by omega) fun _ _ _ _ h => h
  ·exact ⟨Nat.le_refl _, hi, hx⟩
theorem Q5q {r : Rd} {ops : List (List UInt8)} (hA : Asc n T) (h : GR n T r) : GR n T (left T r ops) := fun lv i b hi hb => (h _ _ _ hi hb).bind (Nat.le_refl _) fun x j hj hl hx => (Qis hA h _ _ _ hl hx).back hj fun _ _ _ _ h => h
theorem Qjw (hA : Asc n T) (g : Nat) : ∀ xs i, i < T.length → b ≤ (tk T i).pos → Q16 n b xs i → Q05 n T (Q16 n b) i (Q1q T g xs i) := by
 induction g with
 | zero => intro x i _ _ _; trivial
 | succ g ih =>
  intro xs i hi hb hx
  unfold Q1q
  split
  ·have h1 := Q1p (T := T) hi
   have h2 := Q1j (T := T) (i := i)
   exact (Q3w hA h1 (upto hA hb h2 h1)).bind h2 fun y j hj hl hy => (ih _ _ hl (upto hA hb (by omega) hl) (hx.add hy)).back (by omega) fun _ _ _ _ h => h
  ·exact ⟨Nat.le_refl _, hi, hx⟩
theorem Qre (hA : Asc n T) (hi : i < T.length) (hb : b ≤ (tk T i).pos) : Q05 n T (SynG n T b) i (setR T i) := by
 have h1 := Q1p (T := T) hi
 have h2 := Q1j (T := T) (i := i)
 unfold setR
 split
 ·rename_i h
  exact ⟨h2, h1, Q5s hb (hA.mono _ _ h2 h1) (hA.inn i hi (Q0x h))⟩
 ·refine (Q1w hA hi).bind (Nat.le_refl _) fun t j hj hl ht => ?_
  have hn : (tk T i).pos < n := by rw [← ht.1]; exact ht.2.1
  split
  ·have h3 := Q1p (T := T) hl
   have h4 := Q1j (T := T) (i := j)
   exact ⟨by omega, h3, Q5s hb (hA.mono _ _ (by omega) h3) hn⟩
  ·exact (Q3w hA hl (hA.mono i j hj hl)).bind hj fun x k hk hl2 hx => (Qjw hA _ [x] _ hl2 (hA.mono i k (by omega) hl2) (syns1 (l := k) hx)).bind (by omega) fun xs m hm hl3 hxs => (Q1w hA hl3).bind (by omega) fun _ p hp hl4 _ => ⟨by omega, hl4, Q2y hb (hA.mono _ _ (by omega) hl4) hn (l := 0) hxs⟩
theorem Qh0 {r : Rd} (hA : Asc n T) (h : GR n T r) (hi : i < T.length) (hb : b ≤ (tk T i).pos) (hk : (tk T i).kind ≠ 3) : Q05 n T (SynG n T b) i (notR T r lv i) := by
 have h1 := Q1p (T := T) hi
 have h2 := Q1j (T := T) (i := i)
 exact (Q75 hA h h1 (hA.mono i _ h2 h1)).bind h2 fun x j hj hl hx => ⟨by omega, hl, Q2y hb (hA.mono _ _ (by omega) hl) (hA.inn i hi hk) (l := 0) (syns1 hx)⟩
theorem rd_g (hA : Asc n T) (f : Nat) : ∀ nt, GR n T (rd res T f nt) := by
 induction f with
 | zero => intro nt lv i b _ _; trivial
 | succ f ih =>
  have one : ∀ r : Rd, GR n T r → ∀ q ∈ [r], GR n T q := fun r h q hq => by rw [List.mem_singleton.1 hq]; exact h
  have two : ∀ r p : Rd, GR n T r → GR n T p → ∀ q ∈ [r, p], GR n T q := fun r p h h' q hq => by
   rcases List.mem_cons.1 hq with rfl | hq
   ·exact h
   ·rw [List.mem_singleton.1 hq]; exact h'
  have num : GR n T (fun _ => number T) := fun _ _ _ hi hb => Q3w hA hi hb
  have set : GR n T (fun _ => setR T) := fun _ _ _ hi hb => Qre hA hi hb
  have bin : ∀ {lv i j : Nat} {b : Int} {x : Syn} {r : Rd} {op : List UInt8} {num : Int}, GR n T r → i ≤ j → j < T.length → SynG n T b x j → i ≤ i → Q05 n T (SynG n T b) i ((r lv (nx T j)).bind fun y l => .ok (binary op num x y) l) := fun {lv i j b x r op num} h hj hl hx _ => by
   have h3 := Q1p (T := T) hl
   have h4 := Q1j (T := T) (i := j)
   exact (h _ _ x.pos h3 (upto hA hx.2.1 h4 h3)).bind (by omega) fun y k hk hl2 hy => ⟨by omega, hl2, Q9s hx hy (upto hA hx.2.1 (by omega) hl2)⟩
  intro nt
  cases nt with
  | cond => exact Q5q hA (ih _)
  | conj => exact Q5q hA (ih _)
  | sum => exact Q5q hA (ih _)
  | scheme => exact Q5q hA (ih _)
  | term => exact Q5q hA (ih _)
  | disj => exact Q5q hA (ih _)
  | meet => exact Q5q hA (ih _)
  | neg =>
   intro lv i b hi hb
   have h1 := Q1p (T := T) hi
   have h2 := Q1j (T := T) (i := i)
   rw [rd]
   dsimp only
   split
   ·rename_i h
    exact Qh0 hA (ih _) hi hb (Q0x h)
   split
   ·rename_i h
    exact (Q3g hA h1 (hA.mono i _ h2 h1)).bind h2 fun v j hj hl hv => (Q1w hA hl).bind (by omega) fun _ k hk hl2 _ => (Q75 hA (ih _) hl2 (hA.mono i k (by omega) hl2)).bind (by omega) fun x m hm hl3 hx => ⟨by omega, hl3, Q2y hb (hA.mono _ _ (by omega) hl3) (hA.inn i hi (Q0x h)) (l := 0) (Q16.cons hv (syns1 (l := 0) hx))⟩
   ·refine (ih .sum _ _ _ hi hb).bind (Nat.le_refl _) fun x j hj hl hx => ?_
    split
    ·exact bin (ih .sum) hj hl hx (Nat.le_refl _)
    ·exact ⟨hj, hl, hx⟩
  | unit =>
   intro lv i b hi hb
   have h1 := Q1p (T := T) hi
   have h2 := Q1j (T := T) (i := i)
   have hm := hA.mono i _ h2 h1
   have args : ∀ {rs : List Rd}, (∀ r ∈ rs, GR n T r) → (tk T i).kind ≠ 3 → Q05 n T (SynG n T b) i (arguments T (tk T i) rs lv (nx T i)) := fun h hk => (Qbx hA h h1 hb hm (hA.inn i hi hk)).back h2 fun _ _ _ _ h => h
   rw [rd]
   dsimp only
   split
   ·exact Q3w hA hi hb
   split
   ·exact args (one _ (ih _)) (Q0x (by assumption))
   split
   ·exact args (two _ _ (ih _) (ih _)) (Q0x (by assumption))
   split
   ·rename_i h
    exact (Q3g hA h1 hm).bind h2 fun v j hj hl hv => (Q9l hA (ih _) hl (hA.mono i j (by omega) hl)).bind (by omega) fun x m hm hl3 hx => ⟨by omega, hl3, Q2y hb (hA.mono _ _ (by omega) hl3) (hA.inn i hi (Q0x h)) (l := 0) (Q16.cons hv (syns1 (l := 0) hx))⟩
   split
   ·exact Q9l hA (ih _) hi hb
   ·exact Q3g hA hi hb
  | factor =>
   intro lv i b hi hb
   rw [rd]
   dsimp only
   refine (ih .atom _ _ _ hi hb).bind (Nat.le_refl _) fun x j hj hl hx => ?_
   have h3 := Q1p (T := T) hl
   have h4 := Q1j (T := T) (i := j)
   split
   ·exact (Q3w hA h3 (hA.mono _ _ h4 h3)).bind (by omega) fun _ k hk hl2 _ => (Q75 hA (ih _) hl2 (upto hA hx.2.1 (by omega) hl2)).bind (by omega) fun y m hm hl3 hy => ⟨by omega, hl3, Q9s hx hy (upto hA hx.2.1 (by omega) hl3)⟩
   ·exact ⟨hj, hl, hx⟩
  | atom =>
   intro lv i b hi hb
   have h1 := Q1p (T := T) hi
   have h2 := Q1j (T := T) (i := i)
   have hm := hA.mono i _ h2 h1
   have args : ∀ {rs : List Rd}, (∀ r ∈ rs, GR n T r) → (tk T i).kind ≠ 3 → Q05 n T (SynG n T b) i (arguments T (tk T i) rs lv (nx T i)) := fun h hk => (Qbx hA h h1 hb hm (hA.inn i hi hk)).back h2 fun _ _ _ _ h => h
   rw [rd]
   dsimp only
   split
   ·exact args (one _ num) (Q0x (by assumption))
   split
   ·exact ⟨h2, h1, Q5s hb hm (hA.inn i hi (Q0x (by assumption)))⟩
   split
   ·exact args (one _ (ih _)) (Q0x (by assumption))
   split
   ·exact Q9l hA (ih _) hi hb
   ·exact Q3g hA hi hb
  | formula =>
   intro lv i b hi hb
   rw [rd]
   dsimp only
   refine (ih .disj _ _ _ hi hb).bind (Nat.le_refl _) fun x j hj hl hx => ?_
   have h3 := Q1p (T := T) hl
   have h4 := Q1j (T := T) (i := j)
   split
   ·exact (Q75 hA (ih _) h3 (upto hA hx.2.1 h4 h3)).bind (by omega) fun y m hm hl3 hy => ⟨by omega, hl3, Q9s hx hy (upto hA hx.2.1 (by omega) hl3)⟩
   ·exact ⟨hj, hl, hx⟩
  | lit =>
   intro lv i b hi hb
   have h1 := Q1p (T := T) hi
   have h2 := Q1j (T := T) (i := i)
   have hm := hA.mono i _ h2 h1
   have args : ∀ {rs : List Rd}, (∀ r ∈ rs, GR n T r) → (tk T i).kind ≠ 3 → Q05 n T (SynG n T b) i (arguments T (tk T i) rs lv (nx T i)) := fun h hk => (Qbx hA h h1 hb hm (hA.inn i hi hk)).back h2 fun _ _ _ _ h => h
   rw [rd]
   dsimp only
   split
   ·exact Qh0 hA (ih _) hi hb (Q0x (by assumption))
   split
   ·exact ⟨h2, h1, Q5s hb hm (hA.inn i hi (Q0x (by assumption)))⟩
   split
   ·exact Q9l hA (ih _) hi hb
   split
   ·exact args (two _ _ num num) (Q0x (by assumption))
   split
   ·exact args (one _ num) (Q0x (by assumption))
   split
   ·exact args (two _ _ num (ih _)) (Q0x (by assumption))
   split
   ·exact args (two _ _ set (ih _)) (Q0x (by assumption))
   split
   ·exact args (one _ (ih _)) (Q0x (by assumption))
   ·exact Q3v hA hi
theorem Qdp {f : Nat} {k : Int} (hA : Asc n T) (hi : i < T.length) (hb : b ≤ (tk T i).pos) (hk : (tk T i).kind ≠ 3) : Q05 n T (SynG n T b) i (part res T f k lv i) := by
 have h1 := Q1p (T := T) hi
 have h2 := Q1j (T := T) (i := i)
 exact (rd_g hA f _ _ _ _ h1 (hA.mono i _ h2 h1)).bind h2 fun x j hj hl hx => ⟨by omega, hl, Q2y hb (hA.mono _ _ (by omega) hl) (hA.inn i hi hk) (l := 0) (syns1 hx)⟩
theorem Qfr {f : Nat} {w : List UInt8} {k : Int} {xs : List Syn} (hA : Asc n T) (hi : i < T.length) (hb : b ≤ (tk T i).pos) (hx : Q16 n b xs 0) : Q05 n T (Q16 n b) i (Q69 res T f w k xs lv i) := by
 unfold Q69
 split
 ·exact (Qdp hA hi hb (Q0x (by assumption))).bind (Nat.le_refl _) fun y j hj hl hy => ⟨hj, hl, hx.add hy⟩
 ·exact ⟨Nat.le_refl _, hi, hx⟩
theorem Qqw {f : Nat} (hA : Asc n T) (hi : i < T.length) (hb : b ≤ (tk T i).pos) : Q05 n T (SynG n T b) i (declaration res T f lv i) := by
 have h1 := Q1p (T := T) hi
 have h2 := Q1j (T := T) (i := i)
 have hm : ∀ {j}, i ≤ j → j < T.length → (tk T i).pos ≤ (tk T j).pos := fun hj hl => hA.mono i _ hj hl
 unfold declaration
 refine Q05.bind (P := SynG n T b) (i := i) ?_ (Nat.le_refl _) fun x j hj hl hx => (Q1w hA hl).bind hj fun _ k hk hl2 _ => ⟨by omega, hl2, hx.on hA hk hl2⟩
 split
 ·have hn := hA.inn i hi (Q0x (by assumption))
  refine (Q3g hA h1 (hm h2 h1)).bind h2 fun _ j1 g1 l1 _ => (Q1w hA l1).bind (by omega) fun _ j2 g2 l2 _ => (Q3w hA l2 (hm (by omega) l2)).bind (by omega) fun _ j3 g3 l3 _ => (Q1w hA l3).bind (by omega) fun _ j4 g4 l4 _ => (Q3w hA l4 (hm (by omega) l4)).bind (by omega) fun y j5 g5 l5 hy => (Qfr hA l5 (hm (by omega) l5) (syns1 hy)).bind (by omega) fun xs j6 g6 l6 hxs => ?_
  split
  ·exact (Qdp hA l6 (hm (by omega) l6) (Q0x (by assumption))).bind (by omega) fun z j7 g7 l7 hz => (Qfr hA l7 (hm (by omega) l7) (hxs.add hz)).bind (by omega) fun ys j8 g8 l8 hys => ⟨by omega, l8, Q2y hb (hm (by omega) l8) hn (l := 0) hys⟩
  ·exact Q3v hA l6
 split
 ·have hn := hA.inn i hi (Q0x (by assumption))
  exact (Q3g hA h1 (hm h2 h1)).bind h2 fun _ j1 g1 l1 _ => (Q1w hA l1).bind (by omega) fun _ j2 g2 l2 _ => (rd_g hA f _ _ _ _ l2 (hm (by omega) l2)).bind (by omega) fun y j3 g3 l3 hy => ⟨by omega, l3, Q2y hb (hm (by omega) l3) hn (l := 0) (syns1 hy)⟩
 split
 ·have hn := hA.inn i hi (Q0x (by assumption))
  exact (Q3g hA h1 (hm h2 h1)).bind h2 fun _ j1 g1 l1 _ => (Q1w hA l1).bind (by omega) fun _ j2 g2 l2 _ => (rd_g hA f _ _ _ _ l2 (hm (by omega) l2)).bind (by omega) fun y j3 g3 l3 hy => ⟨by omega, l3, Q2y hb (hm (by omega) l3) hn (l := 0) (syns1 hy)⟩
 split
 ·have hn := hA.inn i hi (Q0x (by assumption))
  exact (Q3g hA h1 (hm h2 h1)).bind h2 fun _ j1 g1 l1 _ => (Q1w hA l1).bind (by omega) fun _ j2 g2 l2 _ => (Q3g hA l2 (hm (by omega) l2)).bind (by omega) fun u j3 g3 l3 hu => (Q1w hA l3).bind (by omega) fun _ j4 g4 l4 _ => (Q3g hA l4 (hm (by omega) l4)).bind (by omega) fun v j5 g5 l5 hv => (Q1w hA l5).bind (by omega) fun _ j6 g6 l6 _ => (Q3w hA l6 (hm (by omega) l6)).bind (by omega) fun _ j7 g7 l7 _ => ⟨by omega, l7, Q2y hb (hm (by omega) l7) hn (l := 0) (Q16.cons hu (syns1 (l := 0) hv))⟩
 ·exact Q3v hA hi
theorem Qp6 {f : Nat} (hA : Asc n T) (g : Nat) : ∀ xs i, i < T.length → b ≤ (tk T i).pos → Q16 n b xs 0 → Q05 n T (Q16 n b) i (Q6v res T f lv g xs i) := by
 induction g with
 | zero => intro x i _ _ _; trivial
 | succ g ih =>
  intro xs i hi hb hx
  unfold Q6v
  split
  ·exact ⟨Nat.le_refl _, hi, hx⟩
  ·exact (Qqw hA hi hb).bind (Nat.le_refl _) fun y j hj hl hy => (ih _ _ hl (upto hA hb hj hl) (hx.add hy)).back hj fun _ _ _ _ h => h
theorem Qls {f : Nat} (hA : Asc n T) : GR n T (program res T f) := fun lv i b hi hb =>
 (Q1w hA hi).bind (Nat.le_refl _) fun t j1 g1 l1 ht => (Q3w hA l1 (hA.mono i _ g1 l1)).bind g1 fun _ j2 g2 l2 _ => (Q1w hA l2).bind (by omega) fun _ j3 g3 l3 _ => (Qp6 hA _ [] _ l3 (hA.mono i _ (by omega) l3) (fun z h => (List.not_mem_nil h).elim)).bind (by omega) fun xs j4 g4 l4 hxs => by
  obtain ⟨rfl, hn, _⟩ := ht
  exact ⟨by omega, l4, Q2y hb (hA.mono _ _ (by omega) l4) hn (l := 0) hxs⟩
theorem Qoy {r : Rd} (hA : Asc n T) (h : GR n T r) (hT : 0 < T.length) : Q05 n T (fun x _ => 0 ≤ x.pos ∧ Ord n x) 0 (whole T r) := by
 unfold whole
 refine (h 0 0 0 hT (hA.low 0 hT)).bind (Nat.le_refl _) fun x j hj hl hx => ?_
 split
 ·exact ⟨hj, hl, hx.1, hx.2.2⟩
 ·exact Q3v hA hl
end
end
theorem Qfn (s : List UInt8) : ∀ (ts : List Tok) (p : Nat), Stand s p ts → (∀ j, j < ts.length → (p : Int) ≤ (tk ts j).pos ∧ (tk ts j).pos + (tk ts j).text.length ≤ s.length) ∧ ∀ i j, i ≤ j → j < ts.length → (tk ts i).pos ≤ (tk ts j).pos
 | [], p, _ => ⟨fun j h => absurd h (Nat.not_lt_zero _), fun i j _ h => absurd h (Nat.not_lt_zero _)⟩
 | t :: r, p, h => by
  obtain ⟨h1, h2, h3, h4, h5⟩ := h
  obtain ⟨q1, q2⟩ := Qfn s r _ h5
  have e : ∀ j, tk (t :: r) (j + 1) = tk r j := fun j => rfl
  have e0 : tk (t :: r) 0 = t := rfl
  refine ⟨fun j hj => ?_, fun i j hij hj => ?_⟩
  ·cases j with
   | zero => rw [e0, h1]; omega
   | succ j =>
    have := q1 j (by simpa using hj)
    rw [e]; omega
  ·cases j with
   | zero =>
    obtain rfl : i = 0 := by omega
    exact Int.le_refl _
   | succ j =>
    have hj' : j < r.length := by simpa using hj
    cases i with
    | zero =>
     have := q1 j hj'
     rw [e0, e, h1]; omega
    | succ i => rw [e, e]; exact q2 i j (by omega) hj'
theorem Qeq {s : List UInt8} {T : List Tok} (h : scan s = .ok T) : Asc s.length T := by
 obtain ⟨q1, q2⟩ := Qfn s T 0 (Qrl h).1
 obtain ⟨C, hC, hx⟩ := Qgy h
 refine ⟨q2, fun i hi => by have := q1 i hi; omega, fun i hi => by have := q1 i hi; omega, fun i hi hk => ?_⟩
 have h1 := q1 i hi
 have h2 : 0 < (tk T i).text.length := by
  rw [Qga, hC]
  rw [Qck, hC] at hk
  rw [List.getD_eq_getElem?_getD] at hk ⊢
  rcases Nat.lt_or_ge i C.length with hl | hl
  ·rw [List.getElem?_append_left hl, List.getElem?_eq_getElem hl]
   obtain ⟨k, _, ht⟩ := hx _ (List.getElem_mem hl)
   have := (Q31 ht).1
   simpa using this
  ·rw [List.getElem?_append_right hl] at hk
   exfalso
   apply hk
   cases hq : i - C.length with
   | zero => rfl
   | succ n => simp
 omega
section
def Tl (U : List Tok) (i : Nat) (K : List KT) : Prop := (kts U).drop i = K
section
variable {U : List Tok} {i : Nat} {K : List KT} {x : KT} {res : List UInt8 → Bool}
theorem Qd5 (h : Tl U i (x :: K)) : (kts U).getD i Q2e = x := by
 have h1 : ((kts U).drop i)[0]? = some x := by rw [show (kts U).drop i = _ from h]; rfl
 rw [List.getElem?_drop, Nat.add_zero] at h1
 rw [List.getD_eq_getElem?_getD, h1]; rfl
theorem Qn (h : Tl U i (x :: K)) : Tl U (i + 1) K := by
 unfold Tl at h ⊢
 rw [← List.drop_drop, h]; rfl
theorem Qjh (h : Tl U i (x :: K)) : i < U.length := by
 have := congrArg List.length (show (kts U).drop i = _ from h)
 rw [List.length_drop, Qc9, List.length_cons] at this
 omega
theorem Q07 {A B : List KT} (h : Tl U i (A ++ B)) : Tl U (i + A.length) B := by
 unfold Tl at h ⊢
 rw [← List.drop_drop, h, List.drop_left]
theorem Qo3 (h : kts U = K) : Tl U 0 K := h
theorem Q3i (h : Tl U i (x :: K)) : (tk U i).kind = x.1 := by rw [Qck, Qd5 h]
theorem Q20 (h : Tl U i (x :: K)) : (tk U i).text = x.2 := by rw [Qga, Qd5 h]
theorem Q0m {y : KT} (h : Tl U i (x :: y :: K)) : nx U i = i + 1 := by unfold nx; rw [if_pos (Qjh (Qn h))]
theorem Q9v (h : Tl U i (x :: K)) (ws : List (List UInt8)) : isW U ws i = ((decide (x.1 = 2) || decide (x.1 = 0)) && ws.contains x.2) := by unfold isW; rw [Q3i h, Q20 h]
theorem Q5z {y : KT} {k : Int} {w : List UInt8} (h : Tl U i ((k, w) :: y :: K)) (hk : k = 2 ∨ k = 0) : need U w i = .ok (tk U i) (i + 1) := by
 unfold need
 rw [Q9v h, Q0m h, if_pos]
 rcases hk with rfl | rfl <;> simp
theorem Q6p {y : KT} {w : List UInt8} (h : Tl U i ((1, w) :: y :: K)) : number U i = .ok (.mk 9 [] (dv 0 w : Nat) (tk U i).pos []) (i + 1) := by
 unfold number
 rw [Q3i h, Q0m h, Q20 h, if_neg (fun h => h rfl)]
theorem Q8v {y : KT} {w : List UInt8} (h : Tl U i ((0, w) :: y :: K)) (hr : res w = false) : name res U i = .ok (.mk 8 w 0 (tk U i).pos []) (i + 1) := by
 unfold name
 rw [Q3i h, Q0m h, Q20 h, if_neg]
 rintro (h | h)
 ·exact h rfl
 ·rw [hr] at h; cases h
theorem Q2i {A B : List KT} {b : KT} (h : Tl U i (A ++ b :: B)) : i < U.length := by
 have := congrArg List.length (show (kts U).drop i = _ from h)
 rw [List.length_drop, Qc9, List.length_append, List.length_cons] at this
 omega
end
def w0 : List UInt8 := [112, 114, 111, 99, 101, 115, 115, 101, 115]
section
variable {U : List Tok} {res : List UInt8 → Bool} {f i : Nat}
theorem Q7u {K : List KT} {k : Int} {w : List UInt8} (h : Tl U i ((k, w) :: K)) (hk : k = 2 ∨ k = 0) (hl : i + 1 < U.length) : need U w i = .ok (tk U i) (i + 1) := by
 unfold need
 rw [Q9v h, show nx U i = i + 1 from by unfold nx; rw [if_pos hl], if_pos]
 rcases hk with rfl | rfl <;> simp
theorem Q0i {c : KT} {K : List KT} {ws : List (List UInt8)} (h : Tl U i (c :: K)) (e : ((decide (c.1 = 2) || decide (c.1 = 0)) && ws.contains c.2) = true) : isW U ws i = true := by rw [Q9v h]; exact e
theorem Q03 {c : KT} {K : List KT} {ws : List (List UInt8)} (h : Tl U i (c :: K)) (e : ((decide (c.1 = 2) || decide (c.1 = 0)) && ws.contains c.2) = false) : ¬ isW U ws i = true := by rw [Q9v h, e]; decide
theorem Q15 {α β : Type} (a : α) (i : Nat) (f : α → Nat → Out β) : (Out.ok a i).bind f = f a i := rfl
end
inductive Emb (x y z : Syn) : Syn → Prop
 |mk {p0 p1 p2 p3 p4 p5 p6 p7 p8 p9 : Int} {x1 x2 y1 z1 : Syn} (h1 : Twin Any x x1) (h2 : Twin Any x x2) (h3 : Twin Any y y1) (h4 : Twin Any z z1) :
  Emb x y z (.mk 0 [] 3 p0 [.mk 1 [116] 2 p1 [.mk 9 [] 4 p2 [], .mk 2 [] 0 p3 [x1], .mk 3 [] 0 p4 [x2]], .mk 5 [97] 0 p5 [y1], .mk 6 [102] 0 p6 [z1], .mk 7 [112] 1 p7 [.mk 8 [116] 0 p8 [], .mk 8 [97] 0 p9 []]])
end
section
def DO (x : Syn) (L : Nat) (o : Out Syn) : Prop := match o with | .ok y l => l = L ∧ Twin Any x y | .err _ e => e = 12 | .none => False
theorem DO.bind {x z : Syn} {L M : Nat} {o : Out Syn} {f : Syn → Nat → Out Syn} (h : DO x L o) (hf : ∀ y, Twin Any x y → DO z M (f y L)) : DO z M (o.bind f) := by
 cases o with
 | none => exact h
 | err p e => exact h
 | ok y l =>
  obtain ⟨rfl, h⟩ := h
  exact hf y h
section
variable {U : List Tok} {res : List UInt8 → Bool} {f lv i L : Nat} {x y : Syn} {K : List KT} {c : KT}
theorem Qs5 {A : List KT} (h : Tl U i ((2, [40]) :: A)) : rd res U (f + 1) .unit lv i = parens U (rd res U f .cond) lv i := by
 rw [rd]
 dsimp only
 rw [if_neg (by rw [Q3i h]; show ¬ (2 : Int) = 1; decide), if_neg (Q03 h (by decide)), if_neg (Q03 h (by decide)), if_neg (Q03 h (by decide)), if_pos (Q0i h (by decide))]
theorem Qn9 {A : List KT} (h : Tl U i ((2, [40]) :: A)) : rd res U (f + 1) .atom lv i = parens U (rd res U f .scheme) lv i := by
 rw [rd]
 dsimp only
 rw [if_neg (Q03 h (by decide)), if_neg (Q03 h (by decide)), if_neg (Q03 h (by decide)), if_pos (Q0i h (by decide))]
theorem Qkq {A : List KT} (h : Tl U i ((2, [40]) :: A)) : rd res U (f + 1) .lit lv i = parens U (rd res U f .formula) lv i := by
 rw [rd]
 dsimp only
 rw [if_neg (Q03 h (by decide)), if_neg (Q03 h (by decide)), if_pos (Q0i h (by decide))]
def noOp (ops : List (List UInt8)) (c : KT) : Prop := ((decide (c.1 = 2) || decide (c.1 = 0)) && ops.contains c.2) = false
theorem noOp.isW {ops : List (List UInt8)} (h : Tl U i (c :: K)) (hc : noOp ops c) : ¬ isW U ops i = true := Q03 h hc
def noGo (c : KT) : Prop := ∀ ws ∈ Q92, noOp ws c
theorem noGo.of {ws : List (List UInt8)} (h : noGo c) (hw : ws ∈ Q92 := by simp [Q92]) : noOp ws c := h ws hw
end
structure Reads (res : List UInt8 → Bool) (nt : NT) (s : List UInt8) (x : Syn) (T : List Tok) (C : List KT) (f j : Nat) : Prop where
 lx : Lx s (C ++ [Q2e])
 kt : kts T = C ++ [Q2e]
 tk : Toks C
 no : (35 : UInt8) ∉ s
 rd : whole T (Proofs.YtplbfmcgddnkeaaGreatDoor.rd res T f nt) = .ok x j
section
variable {res : List UInt8 → Bool} {nt : NT} {s : List UInt8} {x : Syn} {T U : List Tok} {C : List KT} {f g j i lv : Nat}
end
end
section
def DN (x : Syn) (L : Nat) (o : Out Syn) : Prop := match o with | .ok y l => l = L ∧ Twin Any x y | .err _ e => e = 12 | .none => True
theorem DN.bind {x z : Syn} {L M : Nat} {o : Out Syn} {f : Syn → Nat → Out Syn} (h : DN x L o) (hf : ∀ y, Twin Any x y → DN z M (f y L)) : DN z M (o.bind f) := by
 cases o with
 | none => exact h
 | err p e => exact h
 | ok y l =>
  obtain ⟨rfl, h⟩ := h
  exact hf y h
theorem Q0k {x y : Syn} {L : Nat} (h : Twin Any x y) : DN x L (.ok y L) := ⟨rfl, h⟩
section
variable {U : List Tok} {res : List UInt8 → Bool} {f g lv i L M : Nat} {x y : Syn} {K A B : List KT} {c : KT} {r : Rd} {ops : List (List UInt8)}
theorem Q66 (h : DN x L (r (lv + 1) i)) : DN x L (within U r lv i) := by
 unfold within
 split
 ·rfl
 ·exact h
theorem Q8b (h0 : Tl U i ((2, [40]) :: A)) (hi : i + 1 < U.length) (h : DN x L (r (lv + 1) (i + 1))) (h1 : Tl U L ((2, [41]) :: c :: B)) : DN x (L + 1) (parens U r lv i) := by
 unfold parens
 rw [Q7u h0 (.inl rfl) hi, Q15]
 refine (Q66 h).bind fun y hy => ?_
 rw [Q5z h1 (.inl rfl), Q15]
 exact Q0k hy
def SP (U : List Tok) (r : Rd) (ops : List (List UInt8)) (lv i : Nat) (x : Syn) (L : Nat) : Prop :=
 ∀ g, let o := (r lv i).bind fun y j => Q1b U r ops lv g y j
  o = .none ∨ (∃ p, o = .err p 12) ∨ ∃ y g', Twin Any x y ∧ o = Q1b U r ops lv g' y L
theorem Q28 (h : DN x L (r lv i)) : SP U r ops lv i x L := by
 intro g
 cases hr : r lv i with
 | none => exact .inl rfl
 | err p e => rw [hr] at h; obtain rfl : e = 12 := h; exact .inr (.inl ⟨p, rfl⟩)
 | ok y l =>
  rw [hr] at h
  obtain ⟨rfl, h⟩ := h
  exact .inr (.inr ⟨y, g, h, rfl⟩)
theorem Qa3 {kd : Int} {op : List UInt8} {p : Int} (h : SP U r ops lv i x L) (h0 : Tl U L ((kd, op) :: c :: K)) (hk : kd = 2 ∨ kd = 0) (ho : op ∈ ops) (hy : DN y M (r lv (L + 1))) : SP U r ops lv i (.mk 11 op 0 p [x, y]) M := by
 intro g
 rcases h g with h | h | ⟨x', g', hx, h⟩
 ·exact .inl h
 ·exact .inr (.inl h)
 ·show _ ∨ _
  rw [h]
  cases g' with
  | zero => exact .inl rfl
  | succ g' =>
   have hw : isW U ops L = true := Q0i h0 (by rcases hk with rfl | rfl <;> simpa using ho)
   rw [Q1b, if_pos hw, Q0m h0]
   cases hr : r lv (L + 1) with
   | none => exact .inl rfl
   | err p e => rw [hr] at hy; obtain rfl : e = 12 := hy; exact .inr (.inl ⟨p, rfl⟩)
   | ok y' l =>
    rw [hr] at hy
    obtain ⟨rfl, hy⟩ := hy
    refine .inr (.inr ⟨_, g', ?_, rfl⟩)
    rw [Q20 h0]
    exact .mk trivial (.cons hx (.cons hy .nil))
theorem Q3j (h : SP U r ops lv i x L) (ho : ¬ isW U ops L = true) : DN x L (left U r ops lv i) := by
 unfold left
 rcases h (U.length + 1) with h | ⟨p, h⟩ | ⟨y, g', hy, h⟩
 ·rw [h]; trivial
 ·rw [h]; rfl
 ·rw [h]
  cases g' with
  | zero => trivial
  | succ g' => rw [Q1b, if_neg ho]; exact Q0k hy
end
def parK (b : Bool) (K : List KT) : List KT := if b then (2, [40]) :: (K ++ [(2, [41])]) else K
def opK (t : List UInt8) : KT := (if t ∈ cmps ∨ t ∈ sums then 2 else 0, t)
def ktc : Syn → List KT
 | .mk k t n _ [] => if k = 9 then [(1, dec n.toNat)] else [(0, t)]
 | .mk k t _ _ [a] => if k = 12 then (0, kNot) :: parK (decide (lvl 0 a < 2)) (ktc a) else (0, t) :: (2, [40]) :: (parK (decide (lvl 0 a < 4)) (ktc a) ++ [(2, [41])])
 | .mk k t _ _ [a, b] =>
  if k = 13 then if t = Qe then (0, t) :: (0, a.text) :: parK true (ktc b) else (0, t) :: (0, a.text) :: (2, [58]) :: ktc b
  else if k = 10 then (0, t) :: (2, [40]) :: (parK (decide (lvl 0 a < 4)) (ktc a) ++ (2, [44]) :: (parK (decide (lvl 0 b < 4)) (ktc b) ++ [(2, [41])]))
  else parK (Q1n t a || decide (lvl 0 a < lft 0 t)) (ktc a) ++ opK t :: parK (decide (lvl 0 b < rgt 0 t)) (ktc b)
 | _ => []
theorem Qfj (n : Nat) (d : Nat) (hd : d < 10) (l : List UInt8) : dv n (UInt8.ofNat (48 + d) :: l) = dv (10 * n + d) l := by
 rw [Q4k]
 have : (UInt8.ofNat (48 + d)).toNat = 48 + d := by rw [UInt8.toNat_ofNat']; omega
 rw [this]; congr 1; omega
theorem Qm1 : ∀ f n l, n < f → dv 0 (Q0f f n l) = dv n l := by
 intro f
 induction f with
 | zero => intro n l h; omega
 | succ f ih =>
  intro n l h
  rw [Q0f]
  split
  ·rename_i h1; rw [Qfj 0 n h1]; congr 1; omega
  ·rename_i h1
   rw [ih _ _ (by omega), Qfj _ _ (Nat.mod_lt _ (by omega))]
   congr 1; omega
theorem Q7e (n : Nat) : dv 0 (dec n) = n := Qm1 _ _ _ (by omega)
theorem Qgl {d : Nat} (hd : d < 10) : Q9 (UInt8.ofNat (48 + d)).toNat = true := by
 have : (UInt8.ofNat (48 + d)).toNat = 48 + d := by rw [UInt8.toNat_ofNat']; omega
 rw [this]; unfold Q9; simp; omega
theorem Qql : ∀ f n l, n < f → (∀ c ∈ l, Q9 c.toNat = true) → Q0f f n l ≠ [] ∧ ∀ c ∈ Q0f f n l, Q9 c.toNat = true := by
 intro f
 induction f with
 | zero => intro n l h; omega
 | succ f ih =>
  intro n l h hl
  rw [Q0f]
  split
  ·rename_i h1
   refine ⟨List.cons_ne_nil _ _, fun c hc => ?_⟩
   rcases List.mem_cons.1 hc with rfl | hc
   ·exact Qgl h1
   ·exact hl c hc
  ·rename_i h1
   refine ih _ _ (by omega) fun c hc => ?_
   rcases List.mem_cons.1 hc with rfl | hc
   ·exact Qgl (Nat.mod_lt _ (by omega))
   ·exact hl c hc
theorem Qam {p : Int → Bool} : ∀ {l : List UInt8}, (∀ c ∈ l, p c.toNat = true) → Q1 p l = l.length
 | [], _ => rfl
 | c :: r, h => by rw [Q1, if_pos (h c (List.mem_cons_self ..)), Qam fun d hd => h d (List.mem_cons_of_mem _ hd)]; rfl
theorem Qp0 {p : Int → Bool} {c : UInt8} {r : List UInt8} (h : p c.toNat = false) : Q1 p (c :: r) = 0 := by rw [Q1, if_neg (by rw [h]; decide)]
theorem Q9y {n : Nat} (h : n ≤ 1048576) : tok (dec n) = .ok (1, (dec n).length) := by
 obtain ⟨h0, h1⟩ := Qql (n + 1) n [] (by omega) (fun c hc => (List.not_mem_nil hc).elim)
 have hw : Q1 Q5 (dec n) = (dec n).length := Qam fun c hc => by unfold Q5; rw [h1 c hc]; simp
 have hd : Q1 Q9 (dec n) = (dec n).length := Qam h1
 have hl : Q1 Q0a (dec n) = 0 := by
  cases hq : dec n with
  | nil => rfl
  | cons c r =>
   refine Qp0 ?_
   have := h1 c (by show c ∈ dec n; rw [hq]; exact List.mem_cons_self ..)
   unfold Q9 at this
   unfold Q0a
   simp at this ⊢
   omega
 have hp : 0 < (dec n).length := List.length_pos_iff.2 h0
 unfold tok
 rw [hw, hd, hl, if_neg (by omega), if_pos rfl, if_neg (by omega), List.take_length, Qb3 _ _ (by omega), Q7e, if_pos h]
 simp
theorem Q4m {s : List UInt8} (h : Q1h s = true) : tok s = .ok (0, s.length) ∧ Q0 s = false := by
 unfold Q1h at h
 simp only [Bool.and_eq_true, Bool.not_eq_true'] at h
 refine ⟨?_, h.2⟩
 have h1 := h.1
 rw [Q0c, if_neg (by decide), if_neg (by decide)] at h1
 simp only [Bool.and_eq_true, decide_eq_true_eq, Bool.not_eq_true'] at h1
 obtain ⟨⟨⟨h2, h3⟩, h4⟩, h5⟩ := h1
 have hp : 0 < Q1 Q5 s := by
  rw [h3]
  cases s with
  | nil => simp at h2
  | cons c r => simp
 have := Qcd hp
 rw [h3, List.take_length, if_pos h4] at this
 rw [this]
 have : (Qx s).1 = 0 := by exact_mod_cast h5
 rw [this]
theorem Qcx {s : List UInt8} (h : Q0 s = false) (ws : List (List UInt8)) (hw : ∀ w ∈ ws, w ∈ Q1f) : ws.contains s = false := by
 cases hc : ws.contains s with
 | false => rfl
 | true =>
  have : s ∈ Q1f := hw s (by simpa using hc)
  rw [Q0, decide_eq_false_iff_not] at h
  exact absurd this h
end
end Go.Proofs.YtplbfmcgddnkeaaGreatDoor
namespace Go.Proofs.YtplbfmcgddnkeaaGreatDoor
open Go.RowKit
theorem Qq6 (S : Nat → Prop) (op : List UInt8) (num k1 n1 a1 k2 n2 a2 : Int) (t1 t2 : List UInt8) (l1 l2 : List Syn) (v1 v2 : Value) (w : World) (h1 : KidsAt S w l1 v1) (h2 : KidsAt S w l2 v2) (hp : ∀ k, w.heap.size ≤ k → S k) :
  Calls Tryz.prog 93 #[.string ⟨op.toArray⟩, .int .i64 num, .agg #[.int .i64 k1, .string ⟨t1.toArray⟩, .int .i64 n1, .int .i64 a1, v1], .agg #[.int .i64 k2, .string ⟨t2.toArray⟩, .int .i64 n2, .int .i64 a2, v2]] w
   fun r w' => ∃ ka kn kc, r = .returned (.agg #[.int .i64 11, .string ⟨op.toArray⟩, .int .i64 num, .int .i64 a1, .slice ka kn kc]) ∧ (KidsAt S w' [.mk k1 t1 n1 a1 l1, .mk k2 t2 n2 a2 l2] (.slice ka kn kc) ∧ Below w.heap.size w w') := by
 replace h1 := qh h1
 replace h2 := qh h2
 go_enter Tryz.func93, Tryz.ntmps93
 go_wp2_with fail
 refine bodyPost_ret (v := .agg #[.int .i64 11, .string ⟨op.toArray⟩, .int .i64 num, .int .i64 a1, .slice (some ⟨w.heap.size + 1 + 1 + 1, 0, none⟩) 2 2]) (by simp [results, Tryz.results93, go_sem]) rfl ⟨_, _, _, rfl, ?_, (((((Below.refl _ _).alloc (Nat.le_refl _) _).alloc (by simp) _).alloc (by simp; omega) _).alloc (by simp; omega) _)⟩
 have hO : ∀ A B C D : Obj, Keep S w ((((w.alloc A).alloc B).alloc C).alloc D) := fun A B C D => Keep.of_below (((((Below.refl _ _).alloc (Nat.le_refl _) _).alloc (by simp) _).alloc (by simp; omega) _).alloc (by simp; omega) _)
 have hblk := heap_alloc_new (((w.alloc (.cells #[.int .i64 k1, .string ⟨t1.toArray⟩, .int .i64 n1, .int .i64 a1, v1] 24)).alloc (.cells #[.int .i64 k2, .string ⟨t2.toArray⟩, .int .i64 n2, .int .i64 a2, v2] 24)).alloc
  (.cells #[.int .i64 11, .string ⟨op.toArray⟩, .int .i64 num, .int .i64 a1, .slice (some ⟨w.heap.size + 1 + 1 + 1, 0, none⟩) 2 2] 24)) (.cells #[.int .i64 k1, .string ⟨t1.toArray⟩, .int .i64 n1, .int .i64 a1, v1, .int .i64 k2, .string ⟨t2.toArray⟩, .int .i64 n2, .int .i64 a2, v2] 24)
 rw [World.size_alloc, World.size_alloc, World.size_alloc] at hblk
 exact KidsAt.some hblk (hp _ (by omega)) (RowAt.cons (cs := [.int .i64 k1, .string ⟨t1.toArray⟩, .int .i64 n1, .int .i64 a1, v1]) (.mk (h1.out.keep (hO _ _ _ _) fun _ h => h)) (RowAt.cons (cs := [.int .i64 k2, .string ⟨t2.toArray⟩, .int .i64 n2, .int .i64 a2, v2]) (.mk (h2.out.keep (hO _ _ _ _) fun _ h => h)) .nil)) (Nat.le_refl _)
end Go.Proofs.YtplbfmcgddnkeaaGreatDoor
