/- Walks of functions, and plain facts. -/
import Derived.Deep.Slices
import Derived.Deep.Fields
import Derived.ChangeSame
import Derived.Carry
import Derived.OpenShut
import Derived.Test.YtplbfmcgddnkeaaGreatDoorC19
import Derived.Test.YtplbfmcgddnkeaaGreatDoorC05
set_option linter.unusedVariables false
set_option linter.unusedSimpArgs false
set_option maxHeartbeats 20000000
set_option maxRecDepth 100000
namespace Go.Proofs.YtplbfmcgddnkeaaGreatDoor
section
def Q1y (ks : List Syn) : List KT := ks.flatMap fun x => [(2, [44]), (1, dec x.num.toNat)]
def Qad (ks : List Syn) : List KT := (2, [123]) :: ((match ks with | [] => [] | x :: r => (1, dec x.num.toNat) :: Q1y r) ++ [(2, [125])])
def kta (a : Syn) : List KT := if a.kind = 9 then [(1, dec a.num.toNat)] else if a.text = [] then Qad a.kids else [(0, a.text)]
def ktf : Syn → List KT
 | .mk _ t _ _ [] => [(0, t)]
 | .mk k t _ _ [a] => if k = 12 then (0, kNot) :: parK (decide (lvl 2 a < 3)) (ktf a) else if fone.contains t then (0, t) :: (2, [40]) :: (kta a ++ [(2, [41])]) else (0, t) :: (2, [40]) :: (ktf a ++ [(2, [41])])
 | .mk k t _ _ [a, b] =>
  if k = 10 then if ftwo.contains t then (0, t) :: (2, [40]) :: (kta a ++ (2, [44]) :: (kta b ++ [(2, [41])])) else (0, t) :: (2, [40]) :: (kta a ++ (2, [44]) :: (ktf b ++ [(2, [41])]))
  else parK (decide (lvl 2 a < lft 2 t)) (ktf a) ++ (0, t) :: parK (decide (lvl 2 b < rgt 2 t)) (ktf b)
 | _ => []
theorem Qg2 {k : Int} {t : List UInt8} {n p : Int} (h : okf (.mk k t n p []) = true) : k = 10 ∧ n = 0 ∧ t = Q1g := by
 rw [okf] at h
 simp only [Bool.and_eq_true, decide_eq_true_eq, beq_iff_eq] at h
 exact ⟨h.1.1, h.1.2, h.2⟩
theorem Qfv {k : Int} {t : List UInt8} {n p : Int} {a : Syn} (h : okf (.mk k t n p [a]) = true) : n = 0 ∧ ((k = 12 ∧ t = [] ∧ okf a = true) ∨ (k = 10 ∧ ((t ∈ fone ∧ Q2 a = true) ∨ (t ∈ ftim ∧ okf a = true)))) := by
 rw [okf] at h
 simp only [Bool.or_eq_true, Bool.and_eq_true, decide_eq_true_eq, beq_iff_eq, List.contains_iff_mem] at h
 rcases h with ⟨⟨⟨h1, h2⟩, h3⟩, h4⟩ | ⟨⟨h1, h2⟩, h3⟩
 ·exact ⟨h3, .inl ⟨h1, h2, h4⟩⟩
 ·exact ⟨h2, .inr ⟨h1, h3⟩⟩
theorem Ql9 {t : List UInt8} (h : (opP 2 t).isSome = true) : t = Q0n ∨ t = kOr ∨ t = kAnd := by
 unfold opP at h
 rw [if_neg (by decide), if_neg (by decide)] at h
 by_cases h1 : t = Q0n
 ·exact .inl h1
 ·by_cases h2 : t = kOr
  ·exact .inr (.inl h2)
  ·by_cases h3 : t = kAnd
   ·exact .inr (.inr h3)
   ·simp [h1, h2, h3] at h
theorem Qeb {k : Int} {t : List UInt8} {n p : Int} {a b : Syn} (h : okf (.mk k t n p [a, b]) = true) :
  n = 0 ∧ ((k = 10 ∧ ((t ∈ ftwo ∧ Q2 a = true ∧ Q2 b = true) ∨ (t = [75] ∧ Q2 a = true ∧ okf b = true) ∨ (t ∈ fset ∧ Qk a = true ∧ okf b = true))) ∨
   (k = 11 ∧ okf a = true ∧ okf b = true ∧ (t = Q0n ∨ t = kOr ∨ t = kAnd))) := by
 rw [okf] at h
 simp only [Bool.or_eq_true, Bool.and_eq_true, decide_eq_true_eq, beq_iff_eq, List.contains_iff_mem] at h
 rcases h with ⟨⟨h1, h2⟩, h3⟩ | ⟨⟨⟨⟨h1, h2⟩, h3⟩, h4⟩, h5⟩
 ·refine ⟨h2, .inl ⟨h1, ?_⟩⟩
  rcases h3 with (⟨⟨h3, h4⟩, h5⟩ | ⟨⟨h3, h4⟩, h5⟩) | ⟨⟨h3, h4⟩, h5⟩
  ·exact .inl ⟨h3, h4, h5⟩
  ·exact .inr (.inl ⟨h3, h4, h5⟩)
  ·exact .inr (.inr ⟨h3, h4, h5⟩)
 ·exact ⟨h2, .inr ⟨h1, h4, h5, Ql9 h3⟩⟩
theorem Qh4 {a : Syn} (h : Qk a = true) : a.kind = 14 ∧ a.num = 0 ∧ ((a.text = Q34 ∧ a.kids = []) ∨ (a.text = [] ∧ ∀ x ∈ a.kids, Q2 x = true)) := by
 unfold Qk at h
 simp only [Bool.or_eq_true, Bool.and_eq_true, decide_eq_true_eq, beq_iff_eq, List.isEmpty_iff, List.all_eq_true] at h
 exact ⟨h.1.1, h.1.2, h.2⟩
theorem Qdz (x : List UInt8) : ∀ r : List (List UInt8), commas (x :: r) = x ++ r.flatMap fun y => 44 :: 32 :: y
 | [] => by simp [commas]
 | y :: r => by rw [commas, Qdz y r]; simp
theorem Qcc {a : Syn} (h : Q2 a = true) : Spl (dec a.num.toNat) [(1, dec a.num.toNat)] := by
 have := (Q4t h).2.2.1
 exact Q18 (k := 1) (Q9y (by omega))
theorem Qhp {s : List UInt8} {K : List KT} (hs : Spl s K) (hsep : ∀ y, sepd y → sepd (s ++ y)) : ∀ ks : List Syn, (∀ x ∈ ks, Q2 x = true) →
  Spl ((ks.flatMap fun x => 44 :: 32 :: dec x.num.toNat) ++ s) (Q1y ks ++ K) ∧ ∀ y, sepd y → sepd ((ks.flatMap fun x => 44 :: 32 :: dec x.num.toNat) ++ s ++ y)
 | [], _ => ⟨hs, hsep⟩
 | x :: r, h => by
  obtain ⟨h1, h2⟩ := Qhp hs hsep r fun y hy => h y (List.mem_cons_of_mem _ hy)
  refine ⟨?_, fun y hy => Qhs (by decide) (by decide)⟩
  have e1 : ((x :: r).flatMap fun x => 44 :: 32 :: dec x.num.toNat) ++ s = 44 :: 32 :: (dec x.num.toNat ++ ((r.flatMap fun x => 44 :: 32 :: dec x.num.toNat) ++ s)) := by simp
  have e2 : Q1y (x :: r) ++ K = (2, [44]) :: ([(1, dec x.num.toNat)] ++ (Q1y r ++ K)) := by simp [Q1y]
  rw [e1, e2]
  exact Spl.signed (by simp) ((Qcc (h x (List.mem_cons_self ..))).then h1 h2).blank
theorem Q74 {a : Syn} (h : Q2 a = true ∨ Qk a = true) : Spl (warg a) (kta a) := by
 unfold warg kta
 rcases h with h | h
 ·have := (Q4t h).1
  rw [if_pos this, if_pos this]
  exact Qcc h
 ·obtain ⟨h1, -, h2⟩ := Qh4 h
  rw [if_neg (by omega), if_neg (by omega)]
  unfold wset
  rcases h2 with ⟨h2, h3⟩ | ⟨h2, h3⟩
  ·rw [if_neg (by rw [h2]; decide), if_neg (by rw [h2]; decide), h2]
   exact Q3s
  ·rw [if_pos h2, if_pos h2]
   unfold Qad
   refine Spl.signed (by simp) ?_
   cases hk : a.kids with
   | nil => exact Q35 (by simp)
   | cons x r =>
    rw [hk] at h3
    obtain ⟨q1, q2⟩ := Qhp (Q35 (b := 125) (by simp)) (Qg8 (t := []) (by decide) (by decide)) r fun y hy => h3 y (List.mem_cons_of_mem _ hy)
    have e1 : commas ((x :: r).map fun x => dec x.num.toNat) ++ [125] = dec x.num.toNat ++ ((r.flatMap fun x => 44 :: 32 :: dec x.num.toNat) ++ [125]) := by
     rw [List.map_cons, Qdz, List.append_assoc, List.flatMap_map]
    rw [e1]
    exact (Qcc (h3 x (List.mem_cons_self ..))).then q1 q2
theorem Q4z : ∀ t : Syn, okf t = true → Spl (wrf t) (ktf t)
 | .mk k t n p [], h => by
  rw [wrf, ktf]
  obtain ⟨-, -, h'⟩ := Qg2 h
  rw [h']
  exact Q3s
 | .mk k t n p [a], h => by
  rw [wrf, ktf]
  obtain ⟨-, h'⟩ := Qfv h
  rcases h' with ⟨hk, -, ha⟩ | ⟨hk, ⟨ht, ha⟩ | ⟨ht, ha⟩⟩
  ·rw [if_pos hk, if_pos hk]
   exact (Q3s).thenC (Q26 (Q4z a ha)).blank
  ·have hw : tok t = .ok (0, t.length) := by
    clear h
    simp only [fone, List.mem_cons, List.not_mem_nil, or_false] at ht
    rcases ht with rfl | rfl | rfl <;> exact tokIs (by decide)
   have hc : fone.contains t = true := by simpa using ht
   rw [if_neg (by omega), if_pos hc, if_neg (by omega), if_pos hc]
   exact (Q18 hw).thenC (Spl.signed (.inl rfl) ((Q74 (.inl ha)).thenC (Q35 (.inr (.inl rfl)))))
  ·have hw : tok t = .ok (0, t.length) ∧ fone.contains t = false := by
    clear h
    simp only [ftim, List.mem_cons, List.not_mem_nil, or_false] at ht
    rcases ht with rfl | rfl | rfl <;> exact ⟨tokIs (by decide), by decide⟩
   rw [if_neg (by omega), if_neg (by rw [hw.2]; decide), if_neg (by omega), if_neg (by rw [hw.2]; decide)]
   exact (Q18 hw.1).thenC (Spl.signed (.inl rfl) ((Q4z a ha).thenC (Q35 (.inr (.inl rfl)))))
 | .mk k t n p [a, b], h => by
  rw [wrf, ktf]
  obtain ⟨-, h'⟩ := Qeb h
  rcases h' with ⟨hk, h'⟩ | ⟨hk, ha, hb, h'⟩
  ·rw [if_pos hk, if_pos hk]
   rcases h' with ⟨ht, ha, hb⟩ | ⟨ht, ha, hb⟩ | ⟨ht, ha, hb⟩
   ·have hw : tok t = .ok (0, t.length) := by
     clear h
     simp only [ftwo, List.mem_cons, List.not_mem_nil, or_false] at ht
     rcases ht with rfl | rfl | rfl <;> exact tokIs (by decide)
    have hc : ftwo.contains t = true := by simpa using ht
    rw [if_pos hc, if_pos hc]
    exact (Q18 hw).thenC (Spl.signed (.inl rfl) ((Q74 (.inl ha)).thenC (Spl.signed (by simp) ((Q74 (.inl hb)).thenC (Q35 (.inr (.inl rfl)))).blank)))
   ·have hw : tok t = .ok (0, t.length) ∧ ftwo.contains t = false := by
     clear h
     subst ht
     exact ⟨tokIs (by decide), by decide⟩
    rw [if_neg (by rw [hw.2]; decide), if_neg (by rw [hw.2]; decide)]
    exact (Q18 hw.1).thenC (Spl.signed (.inl rfl) ((Q74 (.inl ha)).thenC (Spl.signed (by simp) ((Q4z b hb).thenC (Q35 (.inr (.inl rfl)))).blank)))
   ·have hw : tok t = .ok (0, t.length) ∧ ftwo.contains t = false := by
     clear h
     simp only [fset, List.mem_cons, List.not_mem_nil, or_false] at ht
     rcases ht with rfl | rfl | rfl <;> exact ⟨tokIs (by decide), by decide⟩
    rw [if_neg (by rw [hw.2]; decide), if_neg (by rw [hw.2]; decide)]
    exact (Q18 hw.1).thenC (Spl.signed (.inl rfl) ((Q74 (.inr ha)).thenC (Spl.signed (by simp) ((Q4z b hb).thenC (Q35 (.inr (.inl rfl)))).blank)))
  ·rw [if_neg (by omega), if_neg (by omega)]
   have hw : tok t = .ok (0, t.length) := by
    clear h
    rcases h' with rfl | rfl | rfl <;> exact tokIs (by decide)
   exact (Q26 (Q4z a ha)).thenC ((Q18 hw).thenC (Q26 (Q4z b hb)).blank).blank
 | .mk _ _ _ _ (_ :: _ :: _ :: _), h => by simp [okf] at h
def ntf : Nat → NT | 0 => .formula | 1 => .disj | 2 => .meet | _ => .lit
def goF (m : Nat) : List (List (List UInt8)) := if m = 0 then [[Q0n], [kOr], [kAnd]] else if m = 1 then [[kOr], [kAnd]] else if m = 2 then [[kAnd]] else []
def Q1m (m : Nat) (c : KT) : Prop := ∀ ws ∈ goF m, noOp ws c
theorem Q1m.le {m m' : Nat} {c : KT} (h : Q1m m c) (hm' : m' ≤ 3) (hl : m ≤ m') : Q1m m' c := fun ws hw => h ws (by
 have hm : m = 0 ∨ m = 1 ∨ m = 2 ∨ m = 3 := by omega
 have hm' : m' = 0 ∨ m' = 1 ∨ m' = 2 ∨ m' = 3 := by omega
 rcases hm with rfl | rfl | rfl | rfl <;> rcases hm' with rfl | rfl | rfl | rfl <;> first | omega | (simp [goF] at hw; done) | exact hw | (simp [goF] at hw ⊢; first | done | exact hw | (subst hw; simp; done) | (rcases hw with rfl | rfl <;> simp; done)))
theorem Q8r {m : Nat} : Q1m m (2, [41]) := by
 unfold Q1m goF noOp
 split <;> (try split) <;> (try split) <;> decide
section
variable {U : List Tok} {f lv i L : Nat} {x a b : Syn} {A B : List KT} {c : KT} {t : List UInt8}
abbrev RF (U : List Tok) (f m : Nat) : Rd := rd Q0 U f (ntf m)
theorem upF12 (h : ∀ f lv, DN x L (RF U f 3 lv i)) (hL : Tl U L (c :: B)) (hs : Q1m 2 c) : ∀ f lv, DN x L (RF U f 2 lv i)
 | 0, _ => trivial
 | f + 1, lv => Q3j (r := RF U f 3) (Q28 (h f lv)) (noOp.isW hL (hs [kAnd] (by simp [goF])))
theorem upF01 (h : ∀ f lv, DN x L (RF U f 2 lv i)) (hL : Tl U L (c :: B)) (hs : Q1m 1 c) : ∀ f lv, DN x L (RF U f 1 lv i)
 | 0, _ => trivial
 | f + 1, lv => Q3j (r := RF U f 2) (Q28 (h f lv)) (noOp.isW hL (hs [kOr] (by simp [goF])))
theorem upF00 (h : ∀ f lv, DN x L (RF U f 1 lv i)) (hL : Tl U L (c :: B)) (hs : Q1m 0 c) : ∀ f lv, DN x L (RF U f 0 lv i)
 | 0, _ => trivial
 | f + 1, lv => by
  show DN x L (rd Q0 U (f + 1) .formula lv i)
  rw [rd]
  dsimp only
  refine (h f lv).bind fun y hy => ?_
  rw [if_neg (noOp.isW hL (hs [Q0n] (by simp [goF])))]
  exact Q0k hy
theorem upF {m m' : Nat} (hm : m ≤ 3) (hl : m' ≤ m) (h : ∀ f lv, DN x L (RF U f m lv i)) (hL : Tl U L (c :: B)) (hs : Q1m m' c) : ∀ f lv, DN x L (RF U f m' lv i) := by
 by_cases e3 : m' = 3
 ·obtain rfl : m = m' := by omega
  exact h
 have h2 : 2 ≤ m → ∀ f lv, DN x L (RF U f 2 lv i) := fun e => by
  by_cases e' : m = 2
  ·exact e' ▸ h
  ·obtain rfl : m = 3 := by omega
   exact upF12 h hL (hs.le (by omega) (by omega))
 by_cases e2 : m' = 2
 ·subst e2; exact h2 hl
 have h1 : 1 ≤ m → ∀ f lv, DN x L (RF U f 1 lv i) := fun e => by
  by_cases e' : m = 1
  ·exact e' ▸ h
  ·exact upF01 (h2 (by omega)) hL (hs.le (by omega) (by omega))
 by_cases e1 : m' = 1
 ·subst e1; exact h1 hl
 obtain rfl : m' = 0 := by omega
 by_cases e' : m = 0
 ·exact e' ▸ h
 ·exact upF00 (h1 (by omega)) hL hs
def RdF (U : List Tok) (t : Syn) : Prop :=
 ∀ m f lv i c B, m ≤ 3 → m ≤ lvl 2 t → Tl U i (ktf t ++ c :: B) → Q1m m c → DN t (i + (ktf t).length) (RF U f m lv i)
theorem operF {b : Bool} {m : Nat} (h : RdF U x) (hm : m ≤ 3) (hb : b = false → m ≤ lvl 2 x) (h0 : Tl U i (parK b (ktf x) ++ c :: B)) (hs : Q1m m c) :
  ∀ f lv, DN x (i + (parK b (ktf x)).length) (RF U f m lv i) := by
 cases b with
 | false => exact fun f lv => h m f lv i c B hm (hb rfl) h0 hs
 | true =>
  have h0' : Tl U i ((2, [40]) :: (ktf x ++ (2, [41]) :: c :: B)) := by simpa [parK] using h0
  have h1 := Qn h0'
  have h2 := Q07 (A := ktf x) h1
  have hlen : i + (parK true (ktf x)).length = i + 1 + (ktf x).length + 1 := by simp [parK]; omega
  rw [hlen]
  refine upF (m := 3) (Nat.le_refl _) hm (fun f lv => ?_) (Qn h2) hs
  cases f with
  | zero => trivial
  | succ f =>
   show DN x _ (rd Q0 U (f + 1) .lit lv i)
   rw [Qkq h0']
   exact Q8b h0' (Q2i h1) (h 0 f (lv + 1) (i + 1) _ _ (by omega) (Nat.zero_le _) h1 Q8r) h2
def opsF (p : Nat) : List (List UInt8) := if p = 1 then [kOr] else [kAnd]
def SpF (U : List Tok) (t : Syn) : Prop :=
 ∀ p f lv i c B, 1 ≤ p → p ≤ 2 → p ≤ lvl 2 t → Tl U i (ktf t ++ c :: B) → Q1m (p + 1) c → SP U (RF U f (p + 1)) (opsF p) lv i t (i + (ktf t).length)
theorem Qo2 (h : RdF U x) (hl : 3 ≤ lvl 2 x) : SpF U x := fun p f lv i c B _ hp hle h0 hs => Q28 (h (p + 1) f lv i c B (by omega) (by omega) h0 hs)
theorem Qdx {p : Nat} (h : (p = 1 ∧ t = kOr) ∨ (p = 2 ∧ t = kAnd)) : Q1m (p + 1) (0, t) := by
 rcases h with ⟨rfl, rfl⟩ | ⟨rfl, rfl⟩ <;> (unfold Q1m goF noOp; decide)
theorem Qfc {n p : Int} {ks : List Syn} {o l r : Nat} (h : opP 2 t = some (o, l, r)) : lvl 2 (.mk 11 t n p ks) = o := by simp [lvl, Syn.kind, Syn.text, own, h]
theorem Q9m {o l r : Nat} (h : opP 2 t = some (o, l, r)) : lft 2 t = l ∧ rgt 2 t = r := by simp [lft, rgt, h]
theorem Qi5 {p : Nat} {n q : Int} (hp : (p = 1 ∧ t = kOr) ∨ (p = 2 ∧ t = kAnd)) (ho : opP 2 t = some (p, p, p + 1)) (hn : n = 0)
  (ha : RdF U a ∧ SpF U a) (hb : RdF U b) : RdF U (.mk 11 t n q [a, b]) ∧ SpF U (.mk 11 t n q [a, b]) := by
 have hp' : 1 ≤ p ∧ p ≤ 2 := by rcases hp with ⟨h, -⟩ | ⟨h, -⟩ <;> omega
 have hlvl : lvl 2 (.mk 11 t n q [a, b]) = p := Qfc ho
 have hkt : ktf (.mk 11 t n q [a, b]) = parK (decide (lvl 2 a < p)) (ktf a) ++ (0, t) :: parK (decide (lvl 2 b < p + 1)) (ktf b) := by
  rw [ktf, if_neg (by decide), (Q9m ho).1, (Q9m ho).2]
 have core : ∀ f lv i c B, Tl U i (ktf (.mk 11 t n q [a, b]) ++ c :: B) → Q1m (p + 1) c →
   SP U (RF U f (p + 1)) (opsF p) lv i (.mk 11 t n q [a, b]) (i + (ktf (.mk 11 t n q [a, b])).length) := by
  intro f lv i c B h0 hs
  rw [hkt, List.append_assoc, List.cons_append] at h0
  have h1 := Q07 h0
  obtain ⟨d, K, hdK⟩ := Q3e (A := parK (decide (lvl 2 b < p + 1)) (ktf b)) (c := c) (B := B)
  have hl : SP U (RF U f (p + 1)) (opsF p) lv i a (i + (parK (decide (lvl 2 a < p)) (ktf a)).length) := by
   cases hbl : decide (lvl 2 a < p) with
   | true =>
    rw [hbl] at h0
    exact Q28 (operF (b := true) ha.1 (by omega) (fun h => by cases h) h0 (Qdx hp) f lv)
   | false =>
    rw [hbl] at h0
    simp only [decide_eq_false_iff_not] at hbl
    exact ha.2 p f lv i _ _ hp'.1 hp'.2 (by omega) h0 (Qdx hp)
  have h1' := h1
  rw [hdK] at h1'
  have hr := operF (b := decide (lvl 2 b < p + 1)) hb (m := p + 1) (by omega) (fun h => by simpa using h) (Qn h1) hs f lv
  have := Qa3 (p := q) hl h1' (.inr rfl) (by rcases hp with ⟨rfl, rfl⟩ | ⟨rfl, rfl⟩ <;> simp [opsF]) hr
  rw [hkt, hn]
  have e : i + (parK (decide (lvl 2 a < p)) (ktf a) ++ (0, t) :: parK (decide (lvl 2 b < p + 1)) (ktf b)).length = i + (parK (decide (lvl 2 a < p)) (ktf a)).length + 1 + (parK (decide (lvl 2 b < p + 1)) (ktf b)).length := by
   simp only [List.length_append, List.length_cons]; omega
  rw [e]
  exact this
 have rdp : ∀ f lv i c B, Tl U i (ktf (.mk 11 t n q [a, b]) ++ c :: B) → Q1m p c → DN (.mk 11 t n q [a, b]) (i + (ktf (.mk 11 t n q [a, b])).length) (RF U f p lv i) := by
  intro f lv i c B h0 hs
  cases f with
  | zero => trivial
  | succ f =>
   have h1 := Q3j (core f lv i c B h0 (hs.le (by omega) (by omega))) (noOp.isW (Q07 h0) (hs _ (by rcases hp with ⟨rfl, rfl⟩ | ⟨rfl, rfl⟩ <;> simp [goF, opsF])))
   rcases hp with ⟨rfl, -⟩ | ⟨rfl, -⟩ <;> exact h1
 have hrd : RdF U (.mk 11 t n q [a, b]) := by
  intro m f lv i c B hm hle h0 hs
  rw [hlvl] at hle
  exact upF (by omega) hle (fun f lv => rdp f lv i c B h0 (hs.le (by omega) hle)) (Q07 h0) hs f lv
 refine ⟨hrd, fun p' f lv i c B hp0 hp1 hle h0 hs => ?_⟩
 rw [hlvl] at hle
 by_cases e : p' = p
 ·subst e; exact core f lv i c B h0 hs
 ·exact Q28 (hrd (p' + 1) f lv i c B (by omega) (by rw [hlvl]; omega) h0 hs)
theorem Qte {K : List KT} (h0 : Tl U i ((0, kNot) :: c :: K)) : rd Q0 U (f + 1) .lit lv i = notR U (rd Q0 U f .lit) lv i := by
 rw [rd]
 dsimp only
 rw [if_pos (Q0i h0 (by decide))]
theorem Qlb {K : List KT} (h0 : Tl U i ((0, Q1g) :: c :: K)) : rd Q0 U (f + 1) .lit lv i = .ok (.mk 10 Q1g 0 (tk U i).pos []) (i + 1) := by
 rw [rd]
 dsimp only
 rw [if_neg (Q03 h0 (by decide)), if_pos (Q0i h0 (by decide)), Q20 h0, Q0m h0]
theorem Qsd {K : List KT} (h0 : Tl U i ((0, t) :: c :: K)) (ht : t ∈ ftwo) : rd Q0 U (f + 1) .lit lv i = arguments U (tk U i) [fun _ => number U, fun _ => number U] lv (i + 1) := by
 have hf : ∀ ws, ws = [kNot] ∨ ws = [Q1g] ∨ ws = [[40]] → ¬ isW U ws i = true := fun ws hw => Q03 h0 (by
  simp only [ftwo, List.mem_cons, List.not_mem_nil, or_false] at ht
  rcases hw with rfl | rfl | rfl <;> rcases ht with rfl | rfl | rfl <;> decide)
 rw [rd]
 dsimp only
 rw [if_neg (hf _ (by simp)), if_neg (hf _ (by simp)), if_neg (hf _ (by simp)), if_pos (Q0i h0 (by simpa using ht)), Q0m h0]
theorem Qpr {K : List KT} (h0 : Tl U i ((0, t) :: c :: K)) (ht : t ∈ fone) : rd Q0 U (f + 1) .lit lv i = arguments U (tk U i) [fun _ => number U] lv (i + 1) := by
 have hf : ∀ ws, ws = [kNot] ∨ ws = [Q1g] ∨ ws = [[40]] ∨ ws = ftwo → ¬ isW U ws i = true := fun ws hw => Q03 h0 (by
  simp only [fone, List.mem_cons, List.not_mem_nil, or_false] at ht
  rcases hw with rfl | rfl | rfl | rfl <;> rcases ht with rfl | rfl | rfl <;> decide)
 rw [rd]
 dsimp only
 rw [if_neg (hf _ (by simp)), if_neg (hf _ (by simp)), if_neg (hf _ (by simp)), if_neg (hf _ (by simp)), if_pos (Q0i h0 (by simpa using ht)), Q0m h0]
theorem Qq0 {K : List KT} (h0 : Tl U i ((0, [75]) :: c :: K)) : rd Q0 U (f + 1) .lit lv i = arguments U (tk U i) [fun _ => number U, rd Q0 U f .formula] lv (i + 1) := by
 rw [rd]
 dsimp only
 rw [if_neg (Q03 h0 (by decide)), if_neg (Q03 h0 (by decide)), if_neg (Q03 h0 (by decide)), if_neg (Q03 h0 (by decide)), if_neg (Q03 h0 (by decide)), if_pos (Q0i h0 (by decide)), Q0m h0]
theorem Qm7 {K : List KT} (h0 : Tl U i ((0, t) :: c :: K)) (ht : t ∈ fset) : rd Q0 U (f + 1) .lit lv i = arguments U (tk U i) [fun _ => setR U, rd Q0 U f .formula] lv (i + 1) := by
 have hf : ∀ ws, ws = [kNot] ∨ ws = [Q1g] ∨ ws = [[40]] ∨ ws = ftwo ∨ ws = fone ∨ ws = [[75]] → ¬ isW U ws i = true := fun ws hw => Q03 h0 (by
  simp only [fset, List.mem_cons, List.not_mem_nil, or_false] at ht
  rcases hw with rfl | rfl | rfl | rfl | rfl | rfl <;> rcases ht with rfl | rfl | rfl <;> decide)
 rw [rd]
 dsimp only
 rw [if_neg (hf _ (by simp)), if_neg (hf _ (by simp)), if_neg (hf _ (by simp)), if_neg (hf _ (by simp)), if_neg (hf _ (by simp)), if_neg (hf _ (by simp)), if_pos (Q0i h0 (by simpa using ht)), Q0m h0]
theorem Qkm {K : List KT} (h0 : Tl U i ((0, t) :: c :: K)) (ht : t ∈ ftim) : rd Q0 U (f + 1) .lit lv i = arguments U (tk U i) [rd Q0 U f .formula] lv (i + 1) := by
 have hf : ∀ ws, ws = [kNot] ∨ ws = [Q1g] ∨ ws = [[40]] ∨ ws = ftwo ∨ ws = fone ∨ ws = [[75]] ∨ ws = fset → ¬ isW U ws i = true := fun ws hw => Q03 h0 (by
  simp only [ftim, List.mem_cons, List.not_mem_nil, or_false] at ht
  rcases hw with rfl | rfl | rfl | rfl | rfl | rfl | rfl <;> rcases ht with rfl | rfl | rfl <;> decide)
 rw [rd]
 dsimp only
 rw [if_neg (hf _ (by simp)), if_neg (hf _ (by simp)), if_neg (hf _ (by simp)), if_neg (hf _ (by simp)), if_neg (hf _ (by simp)), if_neg (hf _ (by simp)), if_neg (hf _ (by simp)), if_pos (Q0i h0 (by simpa using ht)), Q0m h0]
theorem Qa2 {x : Syn} (h : Q2 x = true) (q : Int) : Twin Any x (.mk 9 [] (dv 0 (dec x.num.toNat) : Nat) q []) := by
 obtain ⟨n, p, rfl, h1, -⟩ := Qbv h
 rw [Q7e, show (((Syn.mk 9 [] n p []).num.toNat : Nat) : Int) = n by show ((n.toNat : Nat) : Int) = n; omega]
 exact .mk trivial .nil
theorem Qft : ∀ (ks : List Syn) (xs : List Syn) (i g : Nat) (c : KT) (B : List KT), (∀ x ∈ ks, Q2 x = true) → Tl U i (Q1y ks ++ (2, [125]) :: c :: B) →
  Q1q U g xs i = .none ∨ ∃ ys, TwinL Any ks ys ∧ Q1q U g xs i = .ok (xs ++ ys) (i + (Q1y ks).length)
 | _, _, _, 0, _, _, _, _ => .inl rfl
 | [], xs, i, g + 1, c, B, _, h0 => by
  refine .inr ⟨[], .nil, ?_⟩
  have h0' : Tl U i ((2, [125]) :: c :: B) := h0
  rw [Q1q, if_neg (Q03 h0' (by decide)), List.append_nil]; rfl
 | x :: r, xs, i, g + 1, c, B, h, h0 => by
  have h0' : Tl U i ((2, [44]) :: (1, dec x.num.toNat) :: (Q1y r ++ (2, [125]) :: c :: B)) := by simpa [Q1y] using h0
  have h1 := Qn h0'
  have h2 := Qn h1
  obtain ⟨d, K, hdK⟩ := Q3e (A := Q1y r) (c := (2, [125])) (B := c :: B)
  have h1' := h1
  rw [hdK] at h1'
  rw [Q1q, if_pos (Q0i h0' (by decide)), Q0m h0', Q6p h1', Q15]
  rcases Qft r (xs ++ [.mk 9 [] (dv 0 (dec x.num.toNat) : Nat) (tk U (i + 1)).pos []]) (i + 1 + 1) g c B (fun y hy => h y (List.mem_cons_of_mem _ hy)) h2 with h3 | ⟨ys, h3, h4⟩
  ·exact .inl h3
  ·refine .inr ⟨_ :: ys, .cons (Qa2 (h x (List.mem_cons_self ..)) (tk U (i + 1)).pos) h3, ?_⟩
   rw [h4, List.append_assoc, List.singleton_append]
   have : (Q1y (x :: r)).length = 2 + (Q1y r).length := by simp [Q1y]; omega
   rw [this, ← Nat.add_assoc]
theorem Q9z {k : Int} {t : List UInt8} {n q : Int} {ks : List Syn} (h1 : x.kind = k) (h2 : x.text = t) (h3 : x.num = n) (h4 : TwinL Any x.kids ks) : Twin Any x (.mk k t n q ks) := by
 cases x
 subst h1 h2 h3
 exact .mk trivial h4
theorem Qmj (h : Qk x = true) (h0 : Tl U i (kta x ++ c :: B)) : DN x (i + (kta x).length) (setR U i) := by
 obtain ⟨h1, h2, h3⟩ := Qh4 h
 unfold kta at h0 ⊢
 rw [if_neg (by omega)] at h0 ⊢
 unfold setR
 rcases h3 with ⟨h3, h4⟩ | ⟨h3, h4⟩
 ·rw [if_neg (by rw [h3]; decide), h3] at h0 ⊢
  have h0' : Tl U i ((0, Q34) :: c :: B) := h0
  rw [if_pos (Q0i h0' (by decide)), Q20 h0', Q0m h0']
  exact Q0k (Q9z h1 h3 h2 (by rw [h4]; exact .nil))
 ·rw [if_pos h3] at h0 ⊢
  unfold Qad at h0 ⊢
  cases hks : x.kids with
  | nil =>
   rw [hks] at h0
   have h0' : Tl U i ((2, [123]) :: (2, [125]) :: c :: B) := h0
   have t1 := Qn h0'
   rw [if_neg (Q03 h0' (by decide)), Q5z h0' (.inl rfl), Q15, if_pos (Q0i t1 (by decide)), Q0m t1]
   exact Q0k (Q9z h1 h3 h2 (by rw [hks]; exact .nil))
  | cons y r =>
   rw [hks] at h0 h4
   have h0' : Tl U i ((2, [123]) :: (1, dec y.num.toNat) :: (Q1y r ++ (2, [125]) :: c :: B)) := by simpa using h0
   have t1 := Qn h0'
   have t2 := Qn t1
   have t3 := Q07 t2
   obtain ⟨d, K, hdK⟩ := Q3e (A := Q1y r) (c := (2, [125])) (B := c :: B)
   have t1' := t1
   rw [hdK] at t1'
   rw [if_neg (Q03 h0' (by decide)), Q5z h0' (.inl rfl), Q15, if_neg (Q03 t1' (by show (_ && _) = false; rfl)), Q6p t1', Q15]
   rcases Qft r [.mk 9 [] (dv 0 (dec y.num.toNat) : Nat) (tk U (i + 1)).pos []] (i + 1 + 1) (U.length + 1) c B (fun z hz => h4 z (List.mem_cons_of_mem _ hz)) t2 with h5 | ⟨ys, h5, h6⟩
   ·rw [h5]; trivial
   ·rw [h6, Q15, Q5z t3 (.inl rfl), Q15]
    have e : i + ((2, [123]) :: ((1, dec y.num.toNat) :: Q1y r ++ [(2, [125])])).length = i + 1 + 1 + (Q1y r).length + 1 := by simp only [List.length_cons, List.length_append, List.length_nil]; omega
    refine e ▸ Q0k (Q9z h1 h3 h2 ?_)
    rw [hks]
    exact .cons (Qa2 (h4 y (List.mem_cons_self ..)) _) h5
theorem Q8p (h : Q2 x = true) (h0 : Tl U i (kta x ++ c :: B)) : DN x (i + (kta x).length) (number U i) := by
 unfold kta at h0 ⊢
 rw [if_pos (Q4t h).1] at h0 ⊢
 have h0' : Tl U i ((1, dec x.num.toNat) :: c :: B) := h0
 rw [Q6p h0']
 exact Q0k (Qa2 h _)
theorem Q9k {t : Syn} (hl : lvl 2 t = 5) (h : ∀ f lv i c B, Tl U i (ktf t ++ c :: B) → DN t (i + (ktf t).length) (rd Q0 U (f + 1) .lit lv i)) : RdF U t ∧ SpF U t := by
 have h1 : RdF U t := fun m f lv i c B hm hle h0 hs => by
  refine upF (m := 3) (Nat.le_refl _) hm (fun f lv => ?_) (Q07 h0) hs f lv
  cases f with
  | zero => trivial
  | succ f => exact h f lv i c B h0
 exact ⟨h1, Qo2 h1 (by omega)⟩
theorem Q5h : ∀ t : Syn, okf t = true → RdF U t ∧ SpF U t
 | .mk k t n p [], h => by
  obtain ⟨hk, hn, ht⟩ := Qg2 h
  refine Q9k (by simp [lvl, Syn.kind, hk]) fun f lv i c B h0 => ?_
  rw [ktf, ht] at h0 ⊢
  rw [Qlb h0, hk, hn]
  exact Q0k (.mk trivial .nil)
 | .mk k t n p [a], h => by
  obtain ⟨hn, h'⟩ := Qfv h
  rcases h' with ⟨hk, ht, ha⟩ | ⟨hk, h'⟩
  ·have ia := (Q5h a ha).1
   refine Q9k (by simp [lvl, Syn.kind, hk]) fun f lv i c B h0 => ?_
   rw [ktf, if_pos hk] at h0 ⊢
   obtain ⟨d, K, hdK⟩ := Q3e (A := parK (decide (lvl 2 a < 3)) (ktf a)) (c := c) (B := B)
   have h0' := h0
   rw [List.cons_append, hdK] at h0'
   rw [Qte h0']
   unfold notR
   rw [Q0m h0', List.length_cons, ← Nat.add_assoc, Nat.add_right_comm]
   refine (Q66 (operF (m := 3) ia (Nat.le_refl _) (fun h => by simpa using h) (Qn h0) (by unfold Q1m goF; simp) f (lv + 1))).bind fun y hy => ?_
   rw [hk, ht, hn]
   exact Q0k (.mk trivial (.cons hy .nil))
  ·refine Q9k (by simp [lvl, Syn.kind, hk]) fun f lv i c B h0 => ?_
   rcases h' with ⟨ht, ha⟩ | ⟨ht, ha⟩
   ·have hc : fone.contains t = true := by simpa using ht
    rw [ktf, if_neg (by omega), if_pos hc] at h0 ⊢
    have h0' : Tl U i ((0, t) :: (2, [40]) :: (kta a ++ (2, [41]) :: c :: B)) := by simpa using h0
    have h1 := Qn h0'
    have h2 := Qn h1
    have e : i + ((0, t) :: (2, [40]) :: (kta a ++ [(2, [41])])).length = i + 1 + 1 + (kta a).length + 1 := by simp only [List.length_cons, List.length_append, List.length_nil]; omega
    rw [e, hk, Qpr h0' ht]
    exact Q7s (by rw [Q20 h0']) hn h1 (Q2i h2) (Q8p ha h2) (Q07 h2)
   ·have hc : fone.contains t = false := by
     clear h
     simp only [ftim, List.mem_cons, List.not_mem_nil, or_false] at ht
     rcases ht with rfl | rfl | rfl <;> decide
    rw [ktf, if_neg (by omega), if_neg (by rw [hc]; decide)] at h0 ⊢
    have h0' : Tl U i ((0, t) :: (2, [40]) :: (ktf a ++ (2, [41]) :: c :: B)) := by simpa using h0
    have h1 := Qn h0'
    have h2 := Qn h1
    have e : i + ((0, t) :: (2, [40]) :: (ktf a ++ [(2, [41])])).length = i + 1 + 1 + (ktf a).length + 1 := by simp only [List.length_cons, List.length_append, List.length_nil]; omega
    rw [e, hk, Qkm h0' ht]
    exact Q7s (by rw [Q20 h0']) hn h1 (Q2i h2) ((Q5h a ha).1 0 f (lv + 1) _ _ _ (by omega) (Nat.zero_le _) h2 Q8r) (Q07 h2)
 | .mk k t n p [a, b], h => by
  obtain ⟨hn, h'⟩ := Qeb h
  rcases h' with ⟨hk, h'⟩ | ⟨hk, ha, hb, h'⟩
  ·refine Q9k (by simp [lvl, Syn.kind, hk]) fun f lv i c B h0 => ?_
   have two : ∀ (kb : List KT) (r r' : Rd), Tl U i (((0, t) :: (2, [40]) :: (kta a ++ (2, [44]) :: (kb ++ [(2, [41])]))) ++ c :: B) → rd Q0 U (f + 1) .lit lv i = arguments U (tk U i) [r, r'] lv (i + 1) →
     (∀ c B, Tl U (i + 1 + 1) (kta a ++ c :: B) → DN a (i + 1 + 1 + (kta a).length) (r (lv + 1) (i + 1 + 1))) →
     (∀ B j, Tl U j (kb ++ (2, [41]) :: B) → DN b (j + kb.length) (r' (lv + 1) j)) →
     DN (.mk k t n p [a, b]) (i + ((0, t) :: (2, [40]) :: (kta a ++ (2, [44]) :: (kb ++ [(2, [41])]))).length) (rd Q0 U (f + 1) .lit lv i) := by
    intro kb r r' h0 he hr hr'
    have h0' : Tl U i ((0, t) :: (2, [40]) :: (kta a ++ (2, [44]) :: (kb ++ (2, [41]) :: c :: B))) := by simpa using h0
    have h1 := Qn h0'
    have h2 := Qn h1
    have h3 := Q07 h2
    have h4 := Qn h3
    have e : i + ((0, t) :: (2, [40]) :: (kta a ++ (2, [44]) :: (kb ++ [(2, [41])]))).length = i + 1 + 1 + (kta a).length + 1 + kb.length + 1 := by simp only [List.length_cons, List.length_append, List.length_nil]; omega
    rw [e, he, hk]
    exact Qfo (by rw [Q20 h0']) hn h1 (Q2i h2) (hr _ _ h2) h3 (Q2i h4) (hr' _ _ h4) (Q07 h4)
   have hd2 : ∀ K, Tl U i (((0, t) :: (2, [40]) :: K) ++ c :: B) → Tl U i ((0, t) :: (2, [40]) :: (K ++ c :: B)) := fun K h => h
   rcases h' with ⟨ht, ha, hb⟩ | ⟨ht, ha, hb⟩ | ⟨ht, ha, hb⟩
   ·have hc : ftwo.contains t = true := by simpa using ht
    rw [ktf, if_pos hk, if_pos hc] at h0 ⊢
    exact two _ _ _ h0 (Qsd (hd2 _ h0) ht) (fun c B h => Q8p ha h) (fun B j h => Q8p hb h)
   ·have hc : ftwo.contains t = false := by clear h; subst ht; decide
    rw [ktf, if_pos hk, if_neg (by rw [hc]; decide)] at h0 ⊢
    exact two _ _ _ h0 (Qq0 (ht ▸ hd2 _ h0)) (fun c B h => Q8p ha h) (fun B j h => (Q5h b hb).1 0 f (lv + 1) _ _ _ (by omega) (Nat.zero_le _) h Q8r)
   ·have hc : ftwo.contains t = false := by
     clear h
     simp only [fset, List.mem_cons, List.not_mem_nil, or_false] at ht
     rcases ht with rfl | rfl | rfl <;> decide
    rw [ktf, if_pos hk, if_neg (by rw [hc]; decide)] at h0 ⊢
    exact two _ _ _ h0 (Qm7 (hd2 _ h0) ht) (fun c B h => Qmj ha h) (fun B j h => (Q5h b hb).1 0 f (lv + 1) _ _ _ (by omega) (Nat.zero_le _) h Q8r)
  ·have ia := Q5h a ha
   have ib := Q5h b hb
   rcases h' with ht | ht | ht
   ·have ho : opP 2 t = some (0, 1, 0) := by rw [ht]; decide
    have hlvl : lvl 2 (.mk k t n p [a, b]) = 0 := by rw [hk]; exact Qfc ho
    have h1 : RdF U (.mk k t n p [a, b]) := fun m f lv i c B hm hle h0 hs => by
     rw [hlvl] at hle
     obtain rfl : m = 0 := by omega
     cases f with
     | zero => trivial
     | succ f =>
      show DN _ _ (rd Q0 U (f + 1) .formula lv i)
      rw [ktf, if_neg (by omega), (Q9m ho).1, (Q9m ho).2] at h0 ⊢
      rw [List.append_assoc, List.cons_append] at h0
      have t1 := Q07 h0
      have t2 := Qn t1
      obtain ⟨d, K, hdK⟩ := Q3e (A := parK (decide (lvl 2 b < 0)) (ktf b)) (c := c) (B := B)
      have t1' := t1
      rw [hdK] at t1'
      rw [rd]
      dsimp only
      refine (operF (m := 1) ia.1 (by omega) (fun h => by have := of_decide_eq_false h; omega) h0 (by rw [ht]; unfold Q1m goF noOp; decide) f lv).bind fun y hy => ?_
      rw [if_pos (Q0i t1 (by rw [ht]; decide)), Q0m t1']
      have e : i + (parK (decide (lvl 2 a < 1)) (ktf a) ++ (0, t) :: parK (decide (lvl 2 b < 0)) (ktf b)).length = i + (parK (decide (lvl 2 a < 1)) (ktf a)).length + 1 + (parK (decide (lvl 2 b < 0)) (ktf b)).length := by
       simp only [List.length_cons, List.length_append]; omega
      rw [e]
      refine (Q66 (operF (m := 0) ib.1 (by omega) (fun h => by omega) t2 hs f (lv + 1))).bind fun z hz => ?_
      rw [hk, hn, ht]
      exact Q0k (.mk trivial (.cons hy (.cons hz .nil)))
    exact ⟨h1, fun p f lv i c B hp1 _ hle => by rw [hlvl] at hle; omega⟩
   ·rw [hk]; exact Qi5 (.inl ⟨rfl, ht⟩) (by rw [ht]; decide) hn ia ib.1
   ·rw [hk]; exact Qi5 (.inr ⟨rfl, ht⟩) (by rw [ht]; decide) hn ia ib.1
 | .mk _ _ _ _ (_ :: _ :: _ :: _), h => by simp [okf] at h
end
end
end Go.Proofs.YtplbfmcgddnkeaaGreatDoor
namespace Go.Proofs.YtplbfmcgddnkeaaGreatDoor
open Go.ChangeShapes Go.WideShapes Go.Deep Go.RowKit
section
theorem Qjo {α : Type} {R : Nat → α → Prop} : ∀ n : Nat, (∀ i, i < n → ∃ t, R i t) → ∃ ts : List α, ts.length = n ∧ ∀ i (h : i < ts.length), R i ts[i] := by
 intro n
 induction n with
 | zero => intro _; exact ⟨[], rfl, fun i h => by simp at h⟩
 | succ n ih =>
  intro h
  obtain ⟨ts, hl, hr⟩ := ih (fun i hi => h i (by omega))
  obtain ⟨t, ht⟩ := h n (by omega)
  refine ⟨ts ++ [t], by simp [hl], fun i hi => ?_⟩
  by_cases h' : i < ts.length
  ·rw [List.getElem_append_left h']; exact hr i h'
  ·have : i = n := by simp at hi; omega
   subst this
   rw [List.getElem_append_right (by omega)]
   simpa [hl] using ht
section
variable {H : Type} {enc : TypeId × Value → H} {W : World}
theorem Q3l (b o k : Nat) : (⟨b, o, none⟩ : Addr).add k = ⟨b, o + k, none⟩ := by
 unfold Addr.add
 by_cases h : k = 0 <;> simp [h]
theorem Qnx : oneCellFields Tryz.prog (match Tryz.prog.underlying 24 with | some (.struct fs) => fs | _ => #[]) = true := by kernel_rfl
theorem Qdw : Tryz.prog.cellsOf 24 = 5 := by kernel_rfl
theorem Qsm : ∀ (n : Nat) (cs : List Value) (x : DataW H × List MemPlace), DataW.trod enc Tryz.prog W 0 (fun _ => true) true n 24 cs = some x →
  ∃ (t : Syn) (kv : Value), cs = [.int .i64 t.kind, .string ⟨t.text.toArray⟩, .int .i64 t.num, .int .i64 t.pos, kv] ∧ KidR W t.kids kv := by
 intro n
 induction n using Nat.strongRecOn with
 | ind n ih =>
  intro cs x h
  have hs := Qnx
  rw [Tryz.underlying24] at hs
  obtain ⟨ys, n', hn', hy, hlen, hyl, hfl⟩ := DataW.trod_struct Tryz.underlying24 h
  rw [Qdw] at hlen
  obtain ⟨o0, k0⟩ := hone_of hs 0 _ rfl
  obtain ⟨o1, k1⟩ := hone_of hs 1 _ rfl
  obtain ⟨o2, k2⟩ := hone_of hs 2 _ rfl
  obtain ⟨o3, k3⟩ := hone_of hs 3 _ rfl
  obtain ⟨o4, k4⟩ := hone_of hs 4 _ rfl
  have hyl : ys.length = 5 := hyl
  match cs, hlen, ys, hyl with
  | [x0, x1, x2, x3, x4], _, [y0, y1, y2, y3, y4], _ =>
   have f0 := hfl 0 _ rfl
   have f1 := hfl 1 _ rfl
   have f2 := hfl 2 _ rfl
   have f3 := hfl 3 _ rfl
   have f4 := hfl 4 _ rfl
   rw [o0, k0] at f0
   rw [o1, k1] at f1
   rw [o2, k2] at f2
   rw [o3, k3] at f3
   rw [o4, k4] at f4
   obtain ⟨z0, e0, _, _⟩ := DataW.trod_int Tryz.underlying3 (show DataW.trod enc Tryz.prog W 0 (fun _ => true) true n' 3 [x0] = some y0 by simpa using f0)
   obtain ⟨z1, e1, _, _⟩ := DataW.trod_string Tryz.underlying9 (show DataW.trod enc Tryz.prog W 0 (fun _ => true) true n' 9 [x1] = some y1 by simpa using f1)
   obtain ⟨z2, e2, _, _⟩ := DataW.trod_int Tryz.underlying3 (show DataW.trod enc Tryz.prog W 0 (fun _ => true) true n' 3 [x2] = some y2 by simpa using f2)
   obtain ⟨z3, e3, _, _⟩ := DataW.trod_int Tryz.underlying3 (show DataW.trod enc Tryz.prog W 0 (fun _ => true) true n' 3 [x3] = some y3 by simpa using f3)
   have f4' : DataW.trod enc Tryz.prog W 0 (fun _ => true) true n' 22 [x4] = some y4 := by simpa using f4
   have key : ∃ l : List Syn, KidR W l x4 := by
    rcases DataW.trod_slice Tryz.underlying22 f4' with ⟨hc, _⟩ | ⟨a, len, cap, elems, rest, m, hm, hc, _, _, hl, _, hel, hi, _⟩
    ·injection hc with hc _; subst hc; exact ⟨[], .nil⟩
    ·injection hc with hc _; subst hc
     by_cases hz : len = 0
     ·subst hz; exact ⟨[], .nil⟩
     have one : ∀ i, i < len → ∃ t : Syn, ∃ kv, (∀ j (hj : j < 5), W.cell? ((a.add (i * 5)).add j) = [Value.int .i64 t.kind, .string ⟨t.text.toArray⟩, .int .i64 t.num, .int .i64 t.pos, kv][j]?) ∧ KidR W t.kids kv := by
      intro i hil
      have hb := hi i hil
      rw [List.getElem?_eq_getElem (by omega)] at hb
      obtain ⟨cs', g1, g2⟩ := Option.bind_eq_some_iff.1 hb
      rw [Qdw] at g1
      obtain ⟨t, kv, hcs, hk⟩ := ih m (by omega) cs' _ g2
      obtain ⟨_, _, hcell⟩ := World.cells?_some g1
      refine ⟨t, kv, fun j hj => ?_, hk⟩
      rw [hcell j hj, hcs]
     obtain ⟨l, hll, hr⟩ := Qjo len one
     subst hll
     have h0 : 0 < l.length := by omega
     obtain ⟨kv, hc0, -⟩ := hr 0 h0
     obtain ⟨b, o, rfl⟩ : ∃ b o, a = (⟨b, o, none⟩ : Addr) := by
      have := hc0 0 (by omega)
      obtain ⟨b, off, spot⟩ := a
      have hspot : spot = none := by simpa [Addr.add] using World.cell?_spot (a := (Addr.add (Addr.add ⟨b, off, spot⟩ (0 * 5)) 0)) this
      exact ⟨b, off, by rw [hspot]⟩
     refine ⟨l, ?_⟩
     have hr' : ∀ i, ∃ u, ∀ (hi : i < l.length), (∀ j (hj : j < 5), W.cell? (((⟨b, o, none⟩ : Addr).add (i * 5)).add j) = [Value.int .i64 l[i].kind, .string ⟨l[i].text.toArray⟩, .int .i64 l[i].num, .int .i64 l[i].pos, u][j]?) ∧ KidR W l[i].kids u := by
      intro i
      by_cases hi : i < l.length
      ·obtain ⟨u, h1, h2⟩ := hr i hi
       exact ⟨u, fun _ => ⟨h1, h2⟩⟩
      ·exact ⟨.bool false, fun h => absurd h hi⟩
     have hu : ∃ u : Nat → Value, ∀ i (hi : i < l.length), (∀ j (hj : j < 5), W.cell? (((⟨b, o, none⟩ : Addr).add (i * 5)).add j) = [Value.int .i64 l[i].kind, .string ⟨l[i].text.toArray⟩, .int .i64 l[i].num, .int .i64 l[i].pos, u i][j]?) ∧ KidR W l[i].kids (u i) := ⟨fun i => Classical.choose (hr' i), fun i hi => Classical.choose_spec (hr' i) hi⟩
     obtain ⟨u, hu⟩ := hu
     refine .row (u := u) (fun i hi => ?_) (fun i hi => (hu i hi).2) hl
     have hh := (hu i hi).1
     refine ⟨?_, ?_, ?_, ?_, ?_⟩
     ·have h := hh 0 (by omega); rw [Q3l, Q3l] at h; simpa using h
     ·have h := hh 1 (by omega); rw [Q3l, Q3l] at h; simpa using h
     ·have h := hh 2 (by omega); rw [Q3l, Q3l] at h; simpa using h
     ·have h := hh 3 (by omega); rw [Q3l, Q3l] at h; simpa using h
     ·have h := hh 4 (by omega); rw [Q3l, Q3l] at h; simpa using h
   obtain ⟨l, hk⟩ := key
   injection e0 with e0 _
   injection e1 with e1 _
   injection e2 with e2 _
   injection e3 with e3 _
   subst e0 e1 e2 e3
   exact ⟨.mk z0 z1.data.toList z2 z3 l, x4, by simp [Syn.kind, Syn.text, Syn.num, Syn.pos], hk⟩
theorem Qa6 {b0 : Nat} {v : Value} {d : DataW H} {p : List MemPlace} (hval : Value.okWide Tryz.prog W .any b0 24 v) (h : DataW.Trod enc Tryz.prog W 0 (fun _ => true) true 24 v d p) :
  ∃ (t : Syn) (q : Option Addr) (c : Nat), v = Q3 t q c ∧ KidR W t.kids (.slice q t.kids.length c) := by
 have hv : ∃ cs, v = .agg cs := by
  simp only [Value.okWide, Tryz.underlying24] at hval
  obtain ⟨cs, h1, h2, _⟩ := hval
  exact ⟨cs, h1⟩
 obtain ⟨cs, rfl⟩ := hv
 obtain ⟨fuel, hf⟩ := h
 obtain ⟨t, kv, hcs, hk⟩ := Qsm fuel _ _ hf
 obtain ⟨q, c, e⟩ := hk.form
 subst e
 refine ⟨t, q, c, ?_, hk⟩
 have : cs = #[.int .i64 t.kind, .string ⟨t.text.toArray⟩, .int .i64 t.num, .int .i64 t.pos, .slice q t.kids.length c] := by
  apply Array.toList_inj.1
  simpa [Value.cells] using hcs
 rw [this]
end
end
end Go.Proofs.YtplbfmcgddnkeaaGreatDoor
