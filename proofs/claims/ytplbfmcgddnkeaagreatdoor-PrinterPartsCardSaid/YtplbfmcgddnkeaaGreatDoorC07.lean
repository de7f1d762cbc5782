/- Walks of functions, and plain facts. -/
import Derived.Test.YtplbfmcgddnkeaaGreatDoorC06
set_option linter.unusedVariables false
set_option linter.unusedSimpArgs false
set_option maxHeartbeats 20000000
set_option maxRecDepth 100000
namespace Go.Proofs.YtplbfmcgddnkeaaGreatDoor
section
def mass : Syn → Nat
 | .mk _ t _ _ l => 70 + 2 * t.length + massL l
where
 massL : List Syn → Nat
 | [] => 0
 | x :: l => mass x + massL l
abbrev massL := mass.massL
theorem Qr {k : Int} {t : List UInt8} {n p : Int} {l : List Syn} : mass (.mk k t n p l) = 70 + 2 * t.length + massL l := by rw [mass]
theorem Qw : massL [] = 0 := by show mass.massL [] = 0; simp only [mass.massL]
theorem Qm {x : Syn} {l : List Syn} : massL (x :: l) = mass x + massL l := by show mass.massL (x :: l) = _; simp only [mass.massL]
theorem Q9q {l m : List Syn} : massL (l ++ m) = massL l + massL m := by
 induction l with
 | nil => rw [Qw]; simp
 | cons x l ih => rw [List.cons_append, Qm, Qm, ih]; omega
def WO {α : Type} (P : α → Nat → Prop) (o : Out α) : Prop := match o with | .ok a j => P a j | _ => True
theorem WO.bind {α β : Type} {P : α → Nat → Prop} {Q : β → Nat → Prop} {o : Out α} {f : α → Nat → Out β} (h : WO P o) (hf : ∀ a j, P a j → WO Q (f a j)) : WO Q (o.bind f) := by
 cases o with
 | none => trivial
 | err p e => trivial
 | ok a j => exact hf a j h
theorem WO.to {α : Type} {P Q : α → Nat → Prop} {o : Out α} (h : WO P o) (hf : ∀ a j, P a j → Q a j) : WO Q o := by
 cases o with
 | none => trivial
 | err p e => trivial
 | ok a j => exact hf a j h
structure TT (C : Nat) (T : List Tok) : Prop where
 nxt : ∀ i, (tk T i).kind ≠ 3 → nx T i = i + 1
 len : ∀ i, 100 + 2 * (tk T i).text.length ≤ C
 word : ∀ i, (tk T i).kind = 0 → Q0c 0 (tk T i).text = true
 num : ∀ i, (tk T i).kind = 1 → dv 0 (tk T i).text ≤ 1048576
abbrev QW (C : Nat) (ok : Syn → Bool) (i : Nat) (x : Syn) (j : Nat) : Prop := ok x = true ∧ mass x + C * i ≤ C * j
section
variable {T : List Tok} {C lv i : Nat}
theorem Q09 {ws : List (List UInt8)} (h : isW T ws i = true) : (tk T i).kind ≠ 3 ∧ (tk T i).text ∈ ws := by
 unfold isW at h
 rw [Bool.and_eq_true] at h
 obtain ⟨h, h'⟩ := h
 refine ⟨fun e => ?_, by simpa using h'⟩
 rw [e] at h
 revert h; decide
theorem TT.step (hA : TT C T) (h : (tk T i).kind ≠ 3) : nx T i = i + 1 := hA.nxt i h
theorem Q1x {w : List UInt8} (hA : TT C T) : WO (fun _ j => j = i + 1) (need T w i) := by
 unfold need
 split
 ·rename_i h; exact hA.step (Q09 h).1
 ·trivial
theorem mulS {C i : Nat} : C * (i + 1) = C * i + C := Nat.mul_succ ..
theorem mulSS {C i : Nat} : C * (i + 2) = C * i + C + C := by rw [show i + 2 = i + 1 + 1 from rfl, mulS, mulS]
theorem Q3k (hA : TT C T) : WO (QW C isNm i) (name Q0 T i) := by
 unfold name
 split
 ·trivial
 ·rename_i h
  have h0 : (tk T i).kind = 0 := by by_cases e : (tk T i).kind = 0; exact e; exact absurd (Or.inl e) h
  have h1 : Q0 (tk T i).text = false := by cases e : Q0 (tk T i).text; rfl; exact absurd (Or.inr e) h
  refine ⟨?_, ?_⟩
  ·simp [isNm, Q1h, Syn.kind, Syn.text, Syn.num, Syn.kids, hA.word i h0, h1]
  ·rw [hA.nxt i (by rw [h0]; decide), Qr, Qw, mulS]; have := hA.len i; omega
theorem Q3y (hA : TT C T) : WO (QW C Q2 i) (number T i) := by
 unfold number
 split
 ·trivial
 ·rename_i h
  have h1 : (tk T i).kind = 1 := by by_cases e : (tk T i).kind = 1; exact e; exact absurd e h
  have h2 := hA.num i h1
  refine ⟨?_, ?_⟩
  ·have : natB (dv 0 (tk T i).text : Nat) = true := by unfold natB; simp; omega
   simp [Q2, Syn.kind, Syn.text, Syn.num, Syn.kids, this]
  ·rw [hA.nxt i (by rw [h1]; decide), Qr, Qw, mulS]; have := hA.len i; simp only [List.length_nil]; omega
def WR (C : Nat) (ok : Syn → Bool) (r : Rd) : Prop := ∀ lv i, WO (QW C ok i) (r lv i)
theorem Q7k {ok : Syn → Bool} {r : Rd} (h : WR C ok r) : WO (QW C ok i) (within T r lv i) := by
 unfold within
 split
 ·trivial
 ·exact h _ _
theorem Q91 {ok : Syn → Bool} {r : Rd} (hA : TT C T) (h : WR C ok r) : WO (fun x j => ok x = true ∧ mass x + C * (i + 2) ≤ C * j) (parens T r lv i) :=
 (Q1x hA).bind fun _ j hj => (Q7k h).bind fun _ k hx => (Q1x hA).bind fun _ l hl => ⟨hx.1, by subst hj; subst hl; have := hx.2; rw [mulS] at this; have e1 := mulSS (C := C) (i := i); have e2 := mulS (C := C) (i := k); omega⟩
inductive AllB : List Syn → List (Syn → Bool) → Prop
 | nil : AllB [] []
 | cons {x : Syn} {xs : List Syn} {b : Syn → Bool} {bs : List (Syn → Bool)} (h : b x = true) (ht : AllB xs bs) : AllB (x :: xs) (b :: bs)
inductive AllR (C : Nat) : List Rd → List (Syn → Bool) → Prop
 | nil : AllR C [] []
 | cons {r : Rd} {rs : List Rd} {b : Syn → Bool} {bs : List (Syn → Bool)} (h : WR C b r) (ht : AllR C rs bs) : AllR C (r :: rs) (b :: bs)
theorem Qnf {rs : List Rd} {bs : List (Syn → Bool)} (hA : TT C T) (hr : AllR C rs bs) : ∀ i, WO (fun xs j => AllB xs bs ∧ massL xs + C * i ≤ C * j) (Qt.argsMore T rs lv i) := by
 induction hr with
 | nil => intro i; exact ⟨.nil, by rw [Qw]; omega⟩
 | cons h ht ih =>
  intro i
  exact (Q1x hA).bind fun _ j hj => (h _ _).bind fun x k hx => (ih _).bind fun xs l hxs => ⟨.cons hx.1 hxs.1, by
   subst hj; have h1 := hx.2; have h2 := hxs.2; rw [mulS] at h1; rw [Qm]; omega⟩
theorem Qrr {rs : List Rd} {bs : List (Syn → Bool)} (hA : TT C T) (hr : AllR C rs bs) : WO (fun xs j => AllB xs bs ∧ massL xs + C * i ≤ C * j) (Qt T rs lv i) := by
 cases hr with
 | nil => exact ⟨.nil, by rw [Qw]; omega⟩
 | cons h ht => exact (h _ _).bind fun x k hx => (Qnf hA ht _).bind fun xs l hxs => ⟨.cons hx.1 hxs.1, by have h1 := hx.2; have h2 := hxs.2; rw [Qm]; omega⟩
theorem Q40 {rs : List Rd} {bs : List (Syn → Bool)} {ok : Syn → Bool} {w : Tok} (hA : TT C T) (hr : AllR C rs bs) (hw : 100 + 2 * w.text.length ≤ C) (hok : ∀ xs, AllB xs bs → ok (.mk 10 w.text 0 w.pos xs) = true) :
  WO (QW C ok i) (arguments T w rs lv i) := (Q1x hA).bind fun _ j hj => by
 split
 ·trivial
 ·exact (Qrr hA hr).bind fun xs k hxs => (Q1x hA).bind fun _ l hl => ⟨hok _ hxs.1, by subst hj; subst hl; have h1 := hxs.2; rw [mulS] at h1; rw [Qr, mulS]; omega⟩
theorem Q8m {op : List UInt8} {num : Int} {x y : Syn} {j k l : Nat} (ho : 100 + 2 * op.length ≤ C) (hx : mass x + C * i ≤ C * j) (hy : mass y + C * k ≤ C * l) (hk : j + 1 ≤ k) : mass (binary op num x y) + C * i ≤ C * l := by
 have : C * (j + 1) ≤ C * k := Nat.mul_le_mul_left _ hk
 rw [mulS] at this
 rw [binary, Qr, Qm, Qm, Qw]
 omega
theorem Ql3 {r : Rd} {ok : Syn → Bool} {ops : List (List UInt8)} (hA : TT C T) (h : WR C ok r) (ho : ∀ op ∈ ops, ∀ x y, ok x = true → ok y = true → ok (binary op 0 x y) = true) (g : Nat) : ∀ x k, QW C ok i x k → WO (QW C ok i) (Q1b T r ops lv g x k) := by
 induction g with
 | zero => intro x k _; trivial
 | succ g ih =>
  intro x k hx
  unfold Q1b
  split
  ·rename_i hw
   have hw := Q09 hw
   rw [hA.nxt k hw.1]
   exact (h _ _).bind fun y l hy => ih _ _ ⟨ho _ hw.2 _ _ hx.1 hy.1, Q8m (hA.len k) hx.2 hy.2 (Nat.le_refl _)⟩
  ·exact hx
theorem Q5i {r : Rd} {ok : Syn → Bool} {ops : List (List UInt8)} (hA : TT C T) (h : WR C ok r) (ho : ∀ op ∈ ops, ∀ x y, ok x = true → ok y = true → ok (binary op 0 x y) = true) : WR C ok (left T r ops) := fun _ _ => (h _ _).bind fun _ _ hx => Ql3 hA h ho _ _ _ hx
theorem Qk2 (hA : TT C T) (g : Nat) : ∀ xs k, (xs.all Q2 = true ∧ massL xs + C * i ≤ C * k) → WO (fun xs j => xs.all Q2 = true ∧ massL xs + C * i ≤ C * j) (Q1q T g xs k) := by
 induction g with
 | zero => intro x k _; trivial
 | succ g ih =>
  intro xs k hx
  unfold Q1q
  split
  ·rename_i hw
   rw [hA.nxt k (Q09 hw).1]
   exact (Q3y hA).bind fun y l hy => ih _ _ ⟨by rw [List.all_append, hx.1]; simp [hy.1], by
    have h1 := hx.2; have h2 := hy.2; rw [mulS] at h2; rw [Q9q, Qm, Qw]; omega⟩
  ·exact hx
theorem Qs3 (hA : TT C T) : WO (QW C Qk i) (setR T i) := by
 unfold setR
 split
 ·rename_i hw
  have hw := Q09 hw
  have hk : (tk T i).text = Q34 := by simpa using hw.2
  refine ⟨?_, ?_⟩
  ·simp [Qk, Syn.kind, Syn.text, Syn.num, Syn.kids, hk]
  ·rw [hA.nxt i hw.1, Qr, Qw, mulS]; have := hA.len i; omega
 ·refine (Q1x hA).bind fun _ j hj => ?_
  subst hj
  have hc := hA.len i
  split
  ·rename_i hw
   rw [hA.nxt _ (Q09 hw).1]
   refine ⟨?_, ?_⟩
   ·simp [Qk, Syn.kind, Syn.text, Syn.num, Syn.kids]
   ·rw [Qr, Qw, mulS, mulS]; simp only [List.length_nil]; omega
  ·refine (Q3y hA).bind fun x j hx => (Qk2 (i := i + 1) hA _ [x] _ ⟨by simp [hx.1], by rw [Qm, Qw]; have := hx.2; omega⟩).bind fun xs k hxs => (Q1x hA).bind fun _ l hl => ⟨?_, ?_⟩
   ·simp [Qk, Syn.kind, Syn.text, Syn.num, Syn.kids]
    simpa using hxs.1
   ·subst hl
    have h1 := hxs.2
    rw [mulS] at h1
    rw [Qr, mulS]; simp only [List.length_nil]; omega
theorem Qi1 {r : Rd} {ok : Syn → Bool} (hA : TT C T) (h : WR C ok r) (hi : (tk T i).kind ≠ 3) (hok : ∀ x p, ok x = true → ok (.mk 12 [] 0 p [x]) = true) : WO (QW C ok i) (notR T r lv i) := by
 unfold notR
 rw [hA.nxt i hi]
 refine (Q7k h).bind fun x j hx => ⟨hok _ _ hx.1, ?_⟩
 have h1 := hx.2
 have hc := hA.len i
 rw [mulS] at h1
 rw [Qr, Qm, Qw]; simp only [List.length_nil]; omega
def okN : NT → Syn → Bool
 | .cond | .conj | .neg | .sum | .unit => okc
 | .scheme | .term | .factor | .atom => oks
 | .formula | .disj | .meet | .lit => okf
theorem Q8i {x : Syn} (h : Q2 x = true) : okc x = true := by
 rcases x with ⟨k, t, n, p, _ | ⟨a, l⟩⟩
 ·simp [okc, h]
 ·simp [Q2, Syn.kids] at h
theorem Qtp {x : Syn} (h : isNm x = true) : okc x = true := by
 rcases x with ⟨k, t, n, p, _ | ⟨a, l⟩⟩
 ·simp [okc, h]
 ·simp [isNm, Syn.kids] at h
theorem Qpk {x : Syn} (h : isNm x = true) : oks x = true := by
 rcases x with ⟨k, t, n, p, _ | ⟨a, l⟩⟩
 ·simp [oks, h]
 ·simp [isNm, Syn.kids] at h
theorem Q9g {op : List UInt8} (h : (opP 0 op).isSome = true) (x y : Syn) (hx : okc x = true) (hy : okc y = true) : okc (binary op 0 x y) = true := by simp [binary, okc, h, hx, hy]
theorem Qev {op : List UInt8} (h : op = kOr ∨ op = kAnd) (x y : Syn) (hx : oks x = true) (hy : oks y = true) : oks (binary op 0 x y) = true := by rcases h with rfl | rfl <;> simp only [binary, oks, hx, hy] <;> decide
theorem Qb4 {op : List UInt8} (h : (opP 2 op).isSome = true) (x y : Syn) (hx : okf x = true) (hy : okf y = true) : okf (binary op 0 x y) = true := by simp [binary, okf, h, hx, hy]
theorem allB1 {xs : List Syn} {b : Syn → Bool} (h : AllB xs [b]) : ∃ x, xs = [x] ∧ b x = true := by
 cases h with
 | cons h ht => cases ht; exact ⟨_, rfl, h⟩
theorem allB2 {xs : List Syn} {b c : Syn → Bool} (h : AllB xs [b, c]) : ∃ x y, xs = [x, y] ∧ b x = true ∧ c y = true := by
 cases h with
 | cons h ht => cases ht with | cons h' ht => cases ht; exact ⟨_, _, rfl, h, h'⟩
theorem wr1 {r : Rd} {b : Syn → Bool} (h : WR C b r) : AllR C [r] [b] := .cons h .nil
theorem wr2 {r q : Rd} {b c : Syn → Bool} (h : WR C b r) (h' : WR C c q) : AllR C [r, q] [b, c] := .cons h (.cons h' .nil)
theorem rd_w (hA : TT C T) (f : Nat) : ∀ nt, WR C (okN nt) (rd Q0 T f nt) := by
 have num : WR C Q2 (fun _ => number T) := fun _ _ => Q3y hA
 have set : WR C Qk (fun _ => setR T) := fun _ _ => Qs3 hA
 induction f with
 | zero => intro nt lv i; trivial
 | succ f ih =>
  intro nt
  cases nt with
  | cond => exact Q5i hA (ih .conj) (fun op ho => Q9g (by rw [List.mem_singleton.1 ho]; decide))
  | conj => exact Q5i hA (ih .neg) (fun op ho => Q9g (by rw [List.mem_singleton.1 ho]; decide))
  | sum => exact Q5i hA (ih .unit) (fun op ho => Q9g (by
    rcases List.mem_cons.1 ho with rfl | ho
    ·decide
    ·rw [List.mem_singleton.1 ho]; decide))
  | scheme => exact Q5i hA (ih .term) (fun op ho => Qev (Or.inl (List.mem_singleton.1 ho)))
  | term => exact Q5i hA (ih .factor) (fun op ho => Qev (Or.inr (List.mem_singleton.1 ho)))
  | disj => exact Q5i hA (ih .meet) (fun op ho => Qb4 (by rw [List.mem_singleton.1 ho]; decide))
  | meet => exact Q5i hA (ih .lit) (fun op ho => Qb4 (by rw [List.mem_singleton.1 ho]; decide))
  | neg =>
   intro lv i
   rw [rd]
   dsimp only [okN]
   have hc := hA.len i
   split
   ·rename_i hw
    exact Qi1 hA (ih .neg) (Q09 hw).1 (fun x p hx => by simp [okc]; exact hx)
   split
   ·rename_i hw
    have hw := Q09 hw
    rw [hA.nxt i hw.1]
    refine (Q3k hA).bind fun v j hv => (Q1x hA).bind fun _ k hk => (Q7k (ih .cond)).bind fun x l hx => ⟨?_, ?_⟩
    ·have hx := hx.1
     have h2 : (tk T i).text = kAll ∨ (tk T i).text = Q2c := by simpa using hw.2
     dsimp only [okN] at hx
     rcases h2 with h2 | h2 <;> simp [okc, hv.1, hx, h2]
    ·subst hk
     have h1 := hv.2; have h2 := hx.2
     rw [mulS] at h1 h2
     rw [Qr, Qm, Qm, Qw]
     omega
   ·refine (ih .sum _ _).bind fun x j hx => ?_
    split
    ·rename_i hw
     have hw := Q09 hw
     rw [hA.nxt j hw.1]
     refine (ih .sum _ _).bind fun y l hy => ⟨?_, Q8m (hA.len j) hx.2 hy.2 (Nat.le_refl _)⟩
     refine Q9g ?_ _ _ hx.1 hy.1
     have h2 := hw.2
     simp only [List.mem_cons, List.not_mem_nil, or_false] at h2
     rcases h2 with h2 | h2 | h2 | h2 <;> rw [h2] <;> decide
    ·exact hx
  | unit =>
   intro lv i
   rw [rd]
   dsimp only [okN]
   have hc := hA.len i
   split
   ·exact (Q3y hA).to fun x j hx => ⟨Q8i hx.1, hx.2⟩
   split
   ·rename_i hw
    have hw := Q09 hw
    rw [hA.nxt i hw.1]
    refine (Q40 (i := i + 1) hA (wr1 (ih .sum)) (ok := okc) hc fun xs h => ?_).to fun x j hx => ⟨hx.1, by have := hx.2; rw [mulS] at this; omega⟩
    obtain ⟨x, rfl, hx⟩ := allB1 h
    have h2 : (tk T i).text = kIn ∨ (tk T i).text = kOut := by simpa using hw.2
    dsimp only [okN] at hx
    rcases h2 with h2 | h2 <;> simp [okc, hx, h2]
   split
   ·rename_i hw
    have hw := Q09 hw
    rw [hA.nxt i hw.1]
    refine (Q40 (i := i + 1) hA (wr2 (ih .sum) (ih .sum)) (ok := okc) hc fun xs h => ?_).to fun x j hx => ⟨hx.1, by have := hx.2; rw [mulS] at this; omega⟩
    obtain ⟨x, y, rfl, hx, hy⟩ := allB2 h
    have h2 : (tk T i).text = Q0g := by simpa using hw.2
    dsimp only [okN] at hx hy
    simp [okc, hx, hy, h2]
   split
   ·rename_i hw
    have hw := Q09 hw
    rw [hA.nxt i hw.1]
    refine (Q3k hA).bind fun v j hv => (Q91 hA (ih .cond)).bind fun x l hx => ⟨?_, ?_⟩
    ·have hx := hx.1
     have h2 : (tk T i).text = Qe := by simpa using hw.2
     dsimp only [okN] at hx
     simp [okc, hv.1, hx, h2]
    ·have h1 := hv.2; have h2 := hx.2
     rw [mulS] at h1
     rw [mulSS] at h2
     rw [Qr, Qm, Qm, Qw]
     omega
   split
   ·exact (Q91 hA (ih .cond)).to fun x j hx => ⟨hx.1, by have := hx.2; rw [mulSS] at this; omega⟩
   ·exact (Q3k hA).to fun x j hx => ⟨Qtp hx.1, hx.2⟩
  | factor =>
   intro lv i
   rw [rd]
   dsimp only
   refine (ih .atom _ _).bind fun x j hx => ?_
   split
   ·rename_i hw
    have hw := Q09 hw
    rw [hA.nxt j hw.1]
    refine (Q3y hA).bind fun n k hn => (Q7k (ih .factor)).bind fun y l hy => ⟨?_, ?_⟩
    ·have hx := hx.1; have hy := hy.1; have hn := hn.1
     have hn : natB n.num = true := by unfold Q2 at hn; simp only [Bool.and_eq_true] at hn; exact hn.1.2
     dsimp only [okN] at hx hy
     show oks (.mk 11 Qb n.num x.pos [x, y]) = true
     simp only [oks, hx, hy, if_true, hn]
     decide
    ·have h1 := hn.2
     have h2 : j + 1 ≤ k := by
      rcases Nat.lt_or_ge k (j + 1) with h | h
      ·have := Nat.mul_le_mul_left C (show k ≤ j + 1 by omega)
       have : 0 < mass n := by rcases n with ⟨a, b, c, d, e⟩; rw [Qr]; omega
       omega
      ·exact h
     have h3 := hA.len j
     have h4 : (tk T j).text = Qb := by simpa using hw.2
     rw [h4] at h3
     exact Q8m h3 hx.2 hy.2 h2
   ·exact hx
  | atom =>
   intro lv i
   rw [rd]
   dsimp only [okN]
   have hc := hA.len i
   split
   ·rename_i hw
    have hw := Q09 hw
    rw [hA.nxt i hw.1]
    refine (Q40 (i := i + 1) hA (wr1 num) (ok := oks) hc fun xs h => ?_).to fun x j hx => ⟨hx.1, by have := hx.2; rw [mulS] at this; omega⟩
    obtain ⟨x, rfl, hx⟩ := allB1 h
    simp only [oks, hx, decide_true, Bool.true_and, Bool.and_true]
    rw [Bool.or_eq_true]
    exact Or.inr (List.contains_iff_mem.2 hw.2)
   split
   ·rename_i hw
    have hw := Q09 hw
    have h2 : (tk T i).text = Q1s := by simpa using hw.2
    refine ⟨by simp [oks, h2], ?_⟩
    rw [hA.nxt i hw.1, Qr, Qw, mulS]; omega
   split
   ·rename_i hw
    have hw := Q09 hw
    rw [hA.nxt i hw.1]
    refine (Q40 (i := i + 1) hA (wr1 (ih .cond)) (ok := oks) hc fun xs h => ?_).to fun x j hx => ⟨hx.1, by have := hx.2; rw [mulS] at this; omega⟩
    obtain ⟨x, rfl, hx⟩ := allB1 h
    have h2 : (tk T i).text = Q19 := by simpa using hw.2
    dsimp only [okN] at hx
    simp [oks, hx, h2]
   split
   ·exact (Q91 hA (ih .scheme)).to fun x j hx => ⟨hx.1, by have := hx.2; rw [mulSS] at this; omega⟩
   ·exact (Q3k hA).to fun x j hx => ⟨Qpk hx.1, hx.2⟩
  | formula =>
   intro lv i
   rw [rd]
   dsimp only
   refine (ih .disj _ _).bind fun x j hx => ?_
   split
   ·rename_i hw
    have hw := Q09 hw
    rw [hA.nxt j hw.1]
    refine (Q7k (ih .formula)).bind fun y l hy => ⟨Qb4 (by decide) _ _ hx.1 hy.1, ?_⟩
    have h3 := hA.len j
    have h4 : (tk T j).text = Q0n := by simpa using hw.2
    rw [h4] at h3
    exact Q8m h3 hx.2 hy.2 (Nat.le_refl _)
   ·exact hx
  | lit =>
   intro lv i
   rw [rd]
   dsimp only [okN]
   have hc := hA.len i
   split
   ·rename_i hw
    exact Qi1 hA (ih .lit) (Q09 hw).1 (fun x p hx => by simp [okf]; exact hx)
   split
   ·rename_i hw
    have hw := Q09 hw
    have h2 : (tk T i).text = Q1g := by simpa using hw.2
    refine ⟨by simp [okf, h2], ?_⟩
    rw [hA.nxt i hw.1, Qr, Qw, mulS]; omega
   split
   ·exact (Q91 hA (ih .formula)).to fun x j hx => ⟨hx.1, by have := hx.2; rw [mulSS] at this; omega⟩
   split
   ·rename_i hw
    have hw := Q09 hw
    rw [hA.nxt i hw.1]
    refine (Q40 (i := i + 1) hA (wr2 num num) (ok := okf) hc fun xs h => ?_).to fun x j hx => ⟨hx.1, by have := hx.2; rw [mulS] at this; omega⟩
    obtain ⟨x, y, rfl, hx, hy⟩ := allB2 h
    have h2 : ftwo.contains (tk T i).text = true := List.contains_iff_mem.2 hw.2
    simp [okf, hx, hy, -List.contains_eq_mem, h2]
   split
   ·rename_i hw
    have hw := Q09 hw
    rw [hA.nxt i hw.1]
    refine (Q40 (i := i + 1) hA (wr1 num) (ok := okf) hc fun xs h => ?_).to fun x j hx => ⟨hx.1, by have := hx.2; rw [mulS] at this; omega⟩
    obtain ⟨x, rfl, hx⟩ := allB1 h
    have h2 : fone.contains (tk T i).text = true := List.contains_iff_mem.2 hw.2
    simp [okf, hx, -List.contains_eq_mem, h2]
   split
   ·rename_i hw
    have hw := Q09 hw
    rw [hA.nxt i hw.1]
    refine (Q40 (i := i + 1) hA (wr2 num (ih .formula)) (ok := okf) hc fun xs h => ?_).to fun x j hx => ⟨hx.1, by have := hx.2; rw [mulS] at this; omega⟩
    obtain ⟨x, y, rfl, hx, hy⟩ := allB2 h
    have h2 : (tk T i).text = [75] := by simpa using hw.2
    dsimp only [okN] at hy
    simp [okf, hx, hy, -List.contains_eq_mem, h2]
   split
   ·rename_i hw
    have hw := Q09 hw
    rw [hA.nxt i hw.1]
    refine (Q40 (i := i + 1) hA (wr2 set (ih .formula)) (ok := okf) hc fun xs h => ?_).to fun x j hx => ⟨hx.1, by have := hx.2; rw [mulS] at this; omega⟩
    obtain ⟨x, y, rfl, hx, hy⟩ := allB2 h
    have h2 : fset.contains (tk T i).text = true := List.contains_iff_mem.2 hw.2
    dsimp only [okN] at hy
    simp [okf, hx, hy, -List.contains_eq_mem, h2]
   split
   ·rename_i hw
    have hw := Q09 hw
    rw [hA.nxt i hw.1]
    refine (Q40 (i := i + 1) hA (wr1 (ih .formula)) (ok := okf) hc fun xs h => ?_).to fun x j hx => ⟨hx.1, by have := hx.2; rw [mulS] at this; omega⟩
    obtain ⟨x, rfl, hx⟩ := allB1 h
    have h2 : ftim.contains (tk T i).text = true := List.contains_iff_mem.2 hw.2
    dsimp only [okN] at hx
    simp [okf, hx, -List.contains_eq_mem, h2]
   ·trivial
end
end
theorem Qgo : ∀ (f n : Nat) (l : List UInt8), n < 10 ^ f → (Q0f f n l).length ≤ f + l.length := by
 intro f
 induction f with
 | zero => intro n l h; rw [Q0f]; omega
 | succ f ih =>
  intro n l h
  rw [Q0f]
  split
  ·simp; omega
  ·have := ih (n / 10) (UInt8.ofNat (48 + n % 10) :: l) (by rw [Nat.pow_succ] at h; omega)
   rw [List.length_cons] at this
   omega
theorem Q64 {n : Nat} (h : n ≤ 1048576) : (dec n).length ≤ 7 := by
 unfold dec
 by_cases h0 : n < 7
 ·have := Qgo (n + 1) n [] (Nat.lt_of_lt_of_le (show n < 10 ^ 1 by omega) (Nat.pow_le_pow_right (by omega) (by omega)))
  simp only [List.length_nil] at this
  omega
 ·have e : ∀ (g f m : Nat) (l : List UInt8), m < 10 ^ g → 0 < g → (Q0f (g + f) m l) = Q0f g m l := by
   intro g
   induction g with
   | zero => intro f m l h h0; omega
   | succ g ih =>
    intro f m l h h0
    rw [show g + 1 + f = g + f + 1 by omega, Q0f, Q0f]
    split
    ·rfl
    ·rcases Nat.eq_zero_or_pos g with rfl | h'
     ·omega
     ·exact ih _ _ _ (by rw [Nat.pow_succ] at h; omega) h'
  have := e 7 (n - 6) n [] (by omega) (by omega)
  rw [show 7 + (n - 6) = n + 1 by omega] at this
  rw [this]
  have := Qgo 7 n [] (by omega)
  simpa using this
theorem Qfa {n : Int} (h : natB n = true) : n.toNat ≤ 1048576 := by
 unfold natB at h
 simp at h
 omega
theorem Q2o (b : Bool) (s : List UInt8) : (par b s).length ≤ s.length + 2 := by
 unfold par
 split
 ·simp
 ·omega
theorem Q9u {t : Syn} (h : Q2 t = true) : (dec t.num.toNat).length ≤ 7 := by
 unfold Q2 at h
 simp only [Bool.and_eq_true] at h
 exact Q64 (Qfa h.1.2)
theorem Q7z : ∀ (m : Nat) (t : Syn), SizeOf.sizeOf t < m → okc t = true → (wrc t).length ≤ mass t := by
 intro m
 induction m with
 | zero => intro t h; omega
 | succ m ih =>
  intro t hm ho
  rcases t with ⟨kd, tx, n, p, _ | ⟨a, _ | ⟨b, _ | ⟨c, l⟩⟩⟩⟩
  ·rw [Qr]
   rw [wrc]
   split
   ·rename_i hk
    rw [okc] at ho
    rcases Bool.or_eq_true _ _ ▸ ho with h | h
    ·have := Q9u h
     simp only [Syn.num] at this
     omega
    ·simp [isNm, Syn.kind, hk] at h
   ·omega
  ·simp only [Syn.mk.sizeOf_spec, List.cons.sizeOf_spec, List.nil.sizeOf_spec] at hm
   have oa : okc a = true := by simp [okc] at ho; rcases ho with h | h <;> exact h.2
   have h1 := ih a (by omega) oa
   rw [Qr, Qm, Qw, wrc]
   split
   ·have := Q2o (decide (lvl 0 a < 2)) (wrc a)
    simp only [List.length_append, List.length_cons]
    have : kNot.length = 3 := rfl
    omega
   ·have := Q2o (decide (lvl 0 a < 4)) (wrc a)
    simp only [List.length_append, List.length_cons, List.length_nil]
    omega
  ·simp only [Syn.mk.sizeOf_spec, List.cons.sizeOf_spec, List.nil.sizeOf_spec] at hm
   have ob : okc b = true := by
    simp only [okc, Bool.or_eq_true, Bool.and_eq_true] at ho
    rcases ho with (h | h) | h <;> exact h.2
   have h2 := ih b (by omega) ob
   rw [Qr, Qm, Qm, Qw, wrc]
   have ha : a.text.length ≤ mass a := by rcases a with ⟨k, t, n, p, l⟩; rw [Qr]; simp only [Syn.text]; omega
   have pb := fun q => Q2o q (wrc b)
   split
   ·split
    ·have := pb true
     simp only [List.length_append, List.length_cons]
     omega
    ·simp only [List.length_append, List.length_cons]
     omega
   ·have oa : okc a = true := by
     simp only [okc, Bool.or_eq_true, Bool.and_eq_true] at ho
     rcases ho with (h | h) | h
     ·rename_i hk; exact absurd (of_decide_eq_true h.1.1.1.1) hk
     ·exact h.1.2
     ·exact h.1.2
    have h1 := ih a (by omega) oa
    split
    ·have := Q2o (decide (lvl 0 a < 4)) (wrc a)
     have := pb (decide (lvl 0 b < 4))
     simp only [List.length_append, List.length_cons, List.length_nil]
     omega
    ·have := Q2o (Q1n tx a || decide (lvl 0 a < lft 0 tx)) (wrc a)
     have := pb (decide (lvl 0 b < rgt 0 tx))
     simp only [List.length_append, List.length_cons]
     omega
  ·simp [okc] at ho
theorem Qcw : ∀ (m : Nat) (t : Syn), SizeOf.sizeOf t < m → oks t = true → (wrs t).length ≤ mass t := by
 intro m
 induction m with
 | zero => intro t h; omega
 | succ m ih =>
  intro t hm ho
  rcases t with ⟨kd, tx, n, p, _ | ⟨a, _ | ⟨b, _ | ⟨c, l⟩⟩⟩⟩
  ·rw [Qr, wrs]; omega
  ·have oa : okc a = true := by
    simp only [oks, Bool.or_eq_true, Bool.and_eq_true] at ho
    rcases ho.2 with h | h
    ·exact h.2
    ·exact Q8i h.2
   have h1 := Q7z _ a (Nat.lt_succ_self _) oa
   rw [Qr, Qm, Qw, wrs]
   simp only [List.length_append, List.length_cons, List.length_nil]
   omega
  ·simp only [Syn.mk.sizeOf_spec, List.cons.sizeOf_spec, List.nil.sizeOf_spec] at hm
   simp only [oks, Bool.and_eq_true] at ho
   have h1 := ih a (by omega) ho.1.2
   have h2 := ih b (by omega) ho.2
   have := Q2o (decide (lvl 1 a < lft 1 tx)) (wrs a)
   have := Q2o (decide (lvl 1 b < rgt 1 tx)) (wrs b)
   have hn : (if tx = Qb then dec n.toNat ++ [32] else []).length ≤ 8 := by
    split
    ·rename_i ht
     rw [if_pos ht] at ho
     have := Q64 (Qfa ho.1.1.2)
     simp; omega
    ·simp
   rw [Qr, Qm, Qm, Qw, wrs]
   simp only [List.length_append, List.length_cons] at hn ⊢
   omega
  ·simp [oks] at ho
theorem Qdb (l : List Syn) (h : l.all Q2 = true) : (commas (l.map fun x => dec x.num.toNat)).length ≤ massL l := by
 induction l with
 | nil => simp [commas, Qw]
 | cons x l ih =>
  simp only [List.all_cons, Bool.and_eq_true] at h
  have h1 := Q9u h.1
  have h2 := ih h.2
  have h3 : 70 ≤ mass x := by rcases x with ⟨a, b, c, d, e⟩; rw [Qr]; omega
  rw [Qm]
  cases l with
  | nil => simp [commas]; omega
  | cons y l =>
   simp only [List.map_cons, commas, List.length_append, List.length_cons] at h2 ⊢
   omega
theorem Q9w {t : Syn} (h : Q2 t = true ∨ Qk t = true) : (warg t).length ≤ mass t := by
 have h3 : 70 + 2 * t.text.length + massL t.kids = mass t := by rcases t with ⟨a, b, c, d, e⟩; rw [Qr]; rfl
 rcases h with h | h
 ·have h1 := Q9u h
  unfold warg
  unfold Q2 at h
  simp only [Bool.and_eq_true, decide_eq_true_eq] at h
  rw [if_pos h.1.1.1]
  omega
 ·unfold warg
  unfold Qk at h
  simp only [Bool.and_eq_true, decide_eq_true_eq] at h
  rw [if_neg (by rw [h.1.1]; decide)]
  unfold wset
  split
  ·rename_i ht
   rw [ht] at h
   simp only [Bool.or_eq_true, Bool.and_eq_true] at h
   have h4 : t.kids.all Q2 = true := by
    rcases h.2 with h | h
    ·exact absurd h.1 (by decide)
    ·exact h.2
   have := Qdb _ h4
   simp only [List.length_append, List.length_cons, List.length_nil]
   omega
  ·omega
theorem Qcf : ∀ (m : Nat) (t : Syn), SizeOf.sizeOf t < m → okf t = true → (wrf t).length ≤ mass t := by
 intro m
 induction m with
 | zero => intro t h; omega
 | succ m ih =>
  intro t hm ho
  rcases t with ⟨kd, tx, n, p, _ | ⟨a, _ | ⟨b, _ | ⟨c, l⟩⟩⟩⟩
  ·rw [Qr, wrf]; omega
  ·simp only [Syn.mk.sizeOf_spec, List.cons.sizeOf_spec, List.nil.sizeOf_spec] at hm
   rw [Qr, Qm, Qw, wrf]
   simp only [okf, Bool.or_eq_true, Bool.and_eq_true, decide_eq_true_eq] at ho
   split
   ·rename_i hk
    have oa : okf a = true := by
     rcases ho with h | h
     ·exact h.2
     ·rw [hk] at h; exact absurd h.1.1 (by decide)
    have := ih a (by omega) oa
    have := Q2o (decide (lvl 2 a < 3)) (wrf a)
    simp only [List.length_append, List.length_cons]
    have : kNot.length = 3 := rfl
    omega
   ·rename_i hk
    have ho : fone.contains tx = true ∧ Q2 a = true ∨ ftim.contains tx = true ∧ okf a = true := by
     rcases ho with h | h
     ·exact absurd h.1.1.1 hk
     ·exact h.2
    split
    ·rename_i hf
     have oa : Q2 a = true := by
      rcases ho with h | h
      ·exact h.2
      ·exfalso
       have h1 := List.contains_iff_mem.1 hf
       have h2 := h.1
       simp only [List.mem_cons, List.not_mem_nil, or_false] at h1
       rcases h1 with rfl | rfl | rfl <;> exact absurd h2 (by decide)
     have := Q9w (Or.inl oa)
     simp only [List.length_append, List.length_cons, List.length_nil]
     omega
    ·rename_i hf
     have oa : okf a = true := by
      rcases ho with h | h
      ·exact absurd h.1 hf
      ·exact h.2
     have := ih a (by omega) oa
     simp only [List.length_append, List.length_cons, List.length_nil]
     omega
  ·simp only [Syn.mk.sizeOf_spec, List.cons.sizeOf_spec, List.nil.sizeOf_spec] at hm
   rw [Qr, Qm, Qm, Qw, wrf]
   simp only [okf, Bool.or_eq_true, Bool.and_eq_true, decide_eq_true_eq] at ho
   split
   ·rename_i hk
    have ho : (ftwo.contains tx = true ∧ Q2 a = true) ∧ Q2 b = true ∨ (ftwo.contains tx = false ∧ (Q2 a = true ∨ Qk a = true)) ∧ okf b = true := by
     rcases ho with h | h
     ·rcases h.2 with (h | h) | h
      ·exact Or.inl h
      ·have e : tx = [75] := by simpa using h.1.1
       exact Or.inr ⟨⟨by rw [e]; decide, Or.inl h.1.2⟩, h.2⟩
      ·have e := List.contains_iff_mem.1 h.1.1
       simp only [List.mem_cons, List.not_mem_nil, or_false] at e
       exact Or.inr ⟨⟨by rcases e with rfl | rfl | rfl <;> decide, Or.inr h.1.2⟩, h.2⟩
     ·rw [hk] at h; exact absurd h.1.1.1.1 (by decide)
    have oa : Q2 a = true ∨ Qk a = true := by
     rcases ho with h | h
     ·exact Or.inl h.1.2
     ·exact h.1.2
    have := Q9w oa
    split
    ·rename_i hf
     have ob : Q2 b = true := by
      rcases ho with h | h
      ·exact h.2
      ·rw [hf] at h; exact absurd h.1.1 (by decide)
     have := Q9w (Or.inl ob)
     simp only [List.length_append, List.length_cons, List.length_nil]
     omega
    ·rename_i hf
     have ob : okf b = true := by
      rcases ho with h | h
      ·exact absurd h.1.1 hf
      ·exact h.2
     have := ih b (by omega) ob
     simp only [List.length_append, List.length_cons, List.length_nil]
     omega
   ·rename_i hk
    have ho : okf a = true ∧ okf b = true := by
     rcases ho with h | h
     ·exact absurd h.1.1 hk
     ·exact ⟨h.1.2, h.2⟩
    have := ih a (by omega) ho.1
    have := ih b (by omega) ho.2
    have := Q2o (decide (lvl 2 a < lft 2 tx)) (wrf a)
    have := Q2o (decide (lvl 2 b < rgt 2 tx)) (wrf b)
    simp only [List.length_append, List.length_cons]
    omega
  ·simp [okf] at ho
end Go.Proofs.YtplbfmcgddnkeaaGreatDoor
namespace Go.Proofs.YtplbfmcgddnkeaaGreatDoor
open Go.RowKit
section
theorem Qkf : ∀ (f n : Nat) (l : List UInt8), n < f → Q0f f n l = Lib.decDigits n ++ l := by
 intro f
 induction f with
 | zero => intro n l h; omega
 | succ f ih =>
  intro n l h
  rw [Q0f, Lib.decDigits]
  split
  ·rfl
  ·rw [ih _ _ (by omega), List.append_assoc]; rfl
theorem Qkt (n : Nat) : dec n = Lib.decDigits n := by
 unfold dec
 rw [Qkf _ _ _ (Nat.lt_succ_self _), List.append_nil]
abbrev TabW (w : World) : Prop := Lib.TabIs Tryz.prog w "internal/strconv.uint64pow10" .u64 Lib.pow10Tab
theorem Q2b {w w' : World} (h : TabW w) (hb : Below w.heap.size w w') : TabW w' := by
 unfold TabW Lib.TabIs World.var? at h ⊢
 cases hg : Tryz.prog.globalNamed "internal/strconv.uint64pow10" with
 | none => rw [hg] at h; simp at h
 | some g =>
  rw [hg] at h
  simp only [Option.bind_some] at h ⊢
  have hlt : g < w.heap.size := by
   rcases Nat.lt_or_ge g w.heap.size with h' | h'
   ·exact h'
   ·simp [Array.getElem?_eq_none h'] at h
  rw [hb.block g hlt]
  exact h
theorem Qp8 (w : World) (os : Array Obj) : Below w.heap.size w (Go.Sort.grow w os) := ⟨rfl, rfl, rfl, by simp [Go.Sort.grow], fun k hk => by simp only [Go.Sort.grow]; rw [Array.getElem?_append_left hk]⟩
theorem Qoe {n : Int} (hn : natB n = true) (w : World) (ht : TabW w) : Calls Tryz.prog 54 #[.int .i64 n] w fun e w' => e = .returned (.string ⟨(dec n.toNat).toArray⟩) ∧ Below w.heap.size w w' := by
 have h0 : 0 ≤ n ∧ n ≤ 1048576 := by unfold natB at hn; simpa using hn
 refine (Tryz.strconv_Itoa n (by omega) (by omega) w ht).mono ?_
 rintro e w' ⟨rfl, k, os, rfl⟩
 refine ⟨?_, ?_⟩
 ·rw [Lib.itoa, if_neg (by omega), Qkt]
 ·have h1 : Below w.heap.size w (w.drewN k) := ⟨rfl, rfl, rfl, Nat.le_refl _, fun _ _ => rfl⟩
  exact h1.trans ((Qp8 _ _).mono h1.size)
def Q38 (k : Nat) (t : Syn) : Prop := okP k t = true ∨ (k = 2 ∧ (Q2 t = true ∨ Qk t = true))
def wrN (k : Nat) (t : Syn) : List UInt8 := if k = 0 then wrc t else if k = 1 then wrs t else if t.kind = 9 ∨ t.kind = 14 then warg t else wrf t
abbrev Q0e (w : World) (b : Nat) (x k : Int) (tx : List UInt8) (n a : Int) (p : Option Addr) (m c : Nat) : World := boxed ((w.alloc (.cells #[.pointer (some ⟨b, 0, none⟩)] 110)).alloc (.cells #[.int .i64 x] 3)) k tx n a p m c
structure Fr3 (b : Nat) (w1 : World) (s : Nat) (x k : Int) (tx : List UInt8) (n a : Int) (p : Option Addr) (m c : Nat) : Prop where
 hw : w1.heap[s]? = some (.cells #[.pointer (some ⟨b, 0, none⟩)] 110 (0, 0))
 hk : w1.heap[s + 1]? = some (.cells #[.int .i64 x] 3 (0, 0))
 ht : w1.heap[s + 1 + 1]? = some (.cells #[.int .i64 k, .string ⟨List.toArray tx⟩, .int .i64 n, .int .i64 a, .slice p m c] 24 (0, 0))
 lt : b < s
theorem Q0s (w : World) (b : Nat) (x k : Int) (tx : List UInt8) (n a : Int) (p : Option Addr) (m c : Nat) : Below w.heap.size w (Q0e w b x k tx n a p m c) :=
 (((Below.refl _ _).alloc (Nat.le_refl _) _).alloc (by rw [World.size_alloc]; omega) _).alloc (by rw [World.size_alloc, World.size_alloc]; omega) _
theorem Q2z {w : World} {b : Nat} (hb : b < w.heap.size) (x k : Int) (tx : List UInt8) (n a : Int) (p : Option Addr) (m c : Nat) : Fr3 b (Q0e w b x k tx n a p m c) w.heap.size x k tx n a p m c := by
 have e1 : (w.alloc (.cells #[.pointer (some ⟨b, 0, none⟩)] 110)).heap.size = w.heap.size + 1 := World.size_alloc ..
 have e2 : ((w.alloc (.cells #[.pointer (some ⟨b, 0, none⟩)] 110)).alloc (.cells #[.int .i64 x] 3)).heap.size = w.heap.size + 2 := by rw [World.size_alloc, e1]
 refine ⟨?_, ?_, ?_, hb⟩
 ·unfold Q0e boxed
  rw [Lib.alloc_old _ _ _ (by rw [e2]; omega), Lib.alloc_old _ _ _ (by rw [e1]; omega)]
  exact heap_alloc_new _ _
 ·unfold Q0e boxed
  rw [Lib.alloc_old _ _ _ (by rw [e2]; omega)]
  have := heap_alloc_new (w.alloc (.cells #[.pointer (some ⟨b, 0, none⟩)] 110)) (.cells #[.int .i64 x] 3)
  rw [e1] at this
  exact this
 ·have := Qg ((w.alloc (.cells #[.pointer (some ⟨b, 0, none⟩)] 110)).alloc (.cells #[.int .i64 x] 3)) k tx n a p m c
  rw [e2] at this
  exact this
theorem Q2d {B b P o : Nat} {W W' : World} {cs : Array Value} {T : TypeId} {v : Value} (hP : W.heap[P]? = some (.cells cs T (0, 0))) (hT : T ≠ 5) (hb : b < P) (hv : cs[o]? = some v) (h : WRel B b W W') : W'.cell? ⟨P, o, none⟩ = some v := by
 rw [Qhy hP hT (by omega) h, World.cell?, hP]
 simpa using hv
section
variable {B b : Nat} {w1 : World} {s : Nat} {x k : Int} {tx : List UInt8} {n a : Int} {p : Option Addr} {m c : Nat}
theorem Fr3.w (h : Fr3 b w1 s x k tx n a p m c) {W : World} (hr : WRel B b w1 W) : W.cell? ⟨s, 0, none⟩ = some (.pointer (some ⟨b, 0, none⟩)) := Q2d h.hw (by decide) h.lt rfl hr
theorem Fr3.kd (h : Fr3 b w1 s x k tx n a p m c) {W : World} (hr : WRel B b w1 W) : W.cell? ⟨s + 1, 0, none⟩ = some (.int .i64 x) := Q2d h.hk (by decide) (Nat.lt_succ_of_lt h.lt) rfl hr
theorem Fr3.t0 (h : Fr3 b w1 s x k tx n a p m c) {W : World} (hr : WRel B b w1 W) : W.cell? ⟨s + 1 + 1, 0, none⟩ = some (.int .i64 k) := Q2d h.ht (by decide) (by have := h.lt; omega) rfl hr
theorem Fr3.t1 (h : Fr3 b w1 s x k tx n a p m c) {W : World} (hr : WRel B b w1 W) : W.cell? ⟨s + 1 + 1, 1, none⟩ = some (.string ⟨List.toArray tx⟩) := Q2d h.ht (by decide) (by have := h.lt; omega) rfl hr
theorem Fr3.t2 (h : Fr3 b w1 s x k tx n a p m c) {W : World} (hr : WRel B b w1 W) : W.cell? ⟨s + 1 + 1, 2, none⟩ = some (.int .i64 n) := Q2d h.ht (by decide) (by have := h.lt; omega) rfl hr
theorem Fr3.t3 (h : Fr3 b w1 s x k tx n a p m c) {W : World} (hr : WRel B b w1 W) : W.cell? ⟨s + 1 + 1, 3, none⟩ = some (.int .i64 a) := Q2d h.ht (by decide) (by have := h.lt; omega) rfl hr
theorem Fr3.t4 (h : Fr3 b w1 s x k tx n a p m c) {W : World} (hr : WRel B b w1 W) : W.cell? ⟨s + 1 + 1, 4, none⟩ = some (.slice p m c) := Q2d h.ht (by decide) (by have := h.lt; omega) rfl hr
end
theorem WSt.add {w0 w1 : World} {B b : Nat} {l : List UInt8} {W : World} (h : WSt w0 w1 B b l W) (ss : List (List UInt8)) (hn : ss.length ≤ 100) (hlen : l.length + ss.flatten.length ≤ 140737488355328) :
  Calls Tryz.prog 53 #[.pointer (some ⟨b, 0, none⟩), .slice (some ⟨W.heap.size, 0, none⟩) ss.length ss.length] (W.alloc (.cells (ss.map fun s => Value.string ⟨s.toArray⟩).toArray 9)) fun e W' => e = .returned (.tuple #[]) ∧ WSt w0 w1 B b (l ++ ss.flatten) W' := by
 have h2 := h.step ((Below.refl _ _).alloc (Nat.le_refl _) (.cells (ss.map fun s => Value.string ⟨s.toArray⟩).toArray 9))
 refine (Qel w0 _ B b l ss W.heap.size h2.fresh (heap_alloc_new _ _) hlen (by omega)).mono ?_
 rintro e W' ⟨he, hst⟩
 exact ⟨he, h2.call hst⟩
theorem WSt.addD {w0 w1 : World} {B b : Nat} {l : List UInt8} {W : World} (h : WSt w0 w1 B b l W) (ss : List (List UInt8)) (hn : ss.length ≤ 100) (hlen : l.length + ss.flatten.length ≤ 140737488355328) :
  Calls Tryz.prog 53 #[.pointer (some ⟨b, 0, none⟩), .slice (some ⟨W.heap.size, 0, none⟩) ss.length ss.length] (W.alloc (.cells (ss.map fun s => Value.string ⟨s.toArray⟩).toArray 9)).drew fun e W' => e = .returned (.tuple #[]) ∧ WSt w0 w1 B b (l ++ ss.flatten) W' := by
 have h2 := h.step ((Below.refl _ _).alloc (Nat.le_refl _) (.cells (ss.map fun s => Value.string ⟨s.toArray⟩).toArray 9)).drew
 refine (Qel w0 _ B b l ss W.heap.size h2.fresh (heap_alloc_new _ _) hlen (by omega)).mono ?_
 rintro e W' ⟨he, hst⟩
 exact ⟨he, h2.call hst⟩
theorem WRel.step {B b : Nat} {w1 W W' : World} (h : WRel B b w1 W) (hB : B ≤ w1.heap.size) (hb : Below W.heap.size W W') : WRel B b w1 W' := h.trans (.of_below (Nat.le_trans hB h.size) hb)
theorem Qqr (k : Nat) (tx : List UInt8) (n a : Int) (q : Option Addr) (m d : Nat) (w0 w : World) (B b : Nat) (l : List UInt8) (hst : WSt w0 w B b l w) (hlen : l.length + tx.length ≤ 140737488355328) :
  Calls Tryz.prog 57 #[.pointer (some ⟨b, 0, none⟩), .int .i64 k, (Value.agg #[.int .i64 8, .string ⟨List.toArray tx⟩, .int .i64 n, .int .i64 a, .slice q m d])] w (WPost w0 w B b (l ++ tx)) := by
 have hFr := Q2z (Q0o hst.wr).2 k 8 tx n a q m d
 have hst1 := hst.step (Q0s w b k 8 tx n a q m d)
 have hB1 : B ≤ (Q0e w b k 8 tx n a q m d).heap.size := Nat.le_trans hst.ge (Q0s w b k 8 tx n a q m d).size
 unfold Q0e boxed at hFr hst1 hB1
 go_enter Tryz.func57, Tryz.ntmps57
 go_upto_region 5 with (fail)
 generalize World.alloc (World.alloc (World.alloc w _) _) _ = w1 at hFr hst1 hB1 ⊢
 generalize w.heap.size = s at hFr ⊢
 have hR := WRel.refl B b w1
 have g0 := hFr.w hR
 have g1 := hFr.kd hR
 have c0 := hFr.t0 hR
 have c1 := hFr.t1 hR
 have c2 := hFr.t2 hR
 have c3 := hFr.t3 hR
 have c4 := hFr.t4 hR
 have hst2 := qh (hst1.fresh)
 replace hst1 := qh hst1
 have hA := fun W (h : Below w1.heap.size w1 W) => (hst2.out.step h).add [tx] (by simp) (by simpa using hlen)
 simp only [List.flatten_cons, List.flatten_nil, List.append_nil, List.map_cons, List.map_nil, List.length_cons, List.length_nil] at hA
 replace hA := qh hA
 go_wp2_with (first | (go_at_call 53; (with_reducible refine (hA.out _ (Below.refl _ _)).mono ?_); rintro e x5 ⟨rfl, hst3⟩))
 all_goals
  go_end0
  exact ⟨rfl, hst1.out.call hst3⟩
theorem Q41 {w0 w1 W : World} {B b bb o : Nat} {t : Syn} {q : Option Addr} {d : Nat} (hc : KidC w0 bb o t q d) (ht : Below w0.heap.size w0 w1) (hl : w0.heap.size ≤ B) (hr : WRel B b w1 W) : KidC W bb o t q d :=
 Ql hc (ht.trans (hr.below.mono hl))
theorem Qh5 {n : Int} (hn : natB n = true) {w0 w1 cur : World} {B b : Nat} (ht : TabW w0) (htr : Below w0.heap.size w0 cur) (hB : B ≤ w1.heap.size) (W : World) (h1 : WRel B b w1 W) (h2 : Below cur.heap.size cur W) : Calls Tryz.prog 54 #[.int .i64 n] W fun e w' => e = .returned (.string ⟨(dec n.toNat).toArray⟩) ∧ WRel B b w1 w' ∧ Below cur.heap.size cur w' := by
 refine (Qoe hn W (Q2b ht (htr.trans (h2.mono htr.size)))).mono ?_
 rintro e w' ⟨he, hb⟩
 exact ⟨he, h1.step hB hb, h2.trans (hb.mono h2.size)⟩
theorem Q2u {B b : Nat} {w1 W : World} (h : WRel B b w1 W) : WRel B b w1 W.drew := ⟨h.below.drew, h.keeps, h.size⟩
theorem Q6s {B b : Nat} {w1 W : World} (h : WRel B b w1 W) (hB : B ≤ w1.heap.size) (o : Obj) : WRel B b w1 (W.alloc o) := h.step hB ((Below.refl _ _).alloc (Nat.le_refl _) _)
end
end Go.Proofs.YtplbfmcgddnkeaaGreatDoor
