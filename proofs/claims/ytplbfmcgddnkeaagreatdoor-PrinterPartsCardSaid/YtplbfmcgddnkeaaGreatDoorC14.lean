/- Walks of functions, and plain facts. -/
import Derived.Handy
import Derived.Test.YtplbfmcgddnkeaaGreatDoorC09
import Derived.Test.YtplbfmcgddnkeaaGreatDoorC11
import Derived.Test.YtplbfmcgddnkeaaGreatDoorC12
import Derived.Test.YtplbfmcgddnkeaaGreatDoorC13
import Derived.Test.YtplbfmcgddnkeaaGreatDoorC01
import Derived.Test.YtplbfmcgddnkeaaGreatDoorC05
set_option linter.unusedVariables false
set_option linter.unusedSimpArgs false
set_option maxHeartbeats 20000000
set_option maxRecDepth 100000
namespace Go.Proofs.YtplbfmcgddnkeaaGreatDoor
open Go.RowKit
theorem Qmb : ∀ (m : Nat) (t : Syn), SizeOf.sizeOf t < m → Mod t → ∀ (k : Nat), k ≤ 2 → ∀ (q : Option Addr) (d : Nat) (W : World), Q0q W → Q0p W → KidR W t.kids (.slice q t.kids.length d) →
  Calls Tryz.prog 56 #[.int .i64 k, Q3 t q d] W (Q6 W (okP k t)) := by
 intro m
 induction m with
 | zero => intro t h; omega
 | succ m ih =>
  intro t hm hM k hk q d w hg hsp hks
  obtain ⟨kd, tx, n, a, ks⟩ := t
  have hks : KidR w ks (.slice q ks.length d) := hks
  have hl : ks.length ≤ 100000 := hM.len
  have ht : tx.length ≤ 1000000 := hM.text
  have hV : ∀ w', Below w.heap.size w w' → Q7v w' ks := fun w' hb' i hi k hk q d W hb hkk => by
   have h1 := List.sizeOf_lt_of_mem (List.getElem_mem hi)
   simp only [Syn.mk.sizeOf_spec] at hm
   exact ih _ (by omega) (hM.kid _ (List.getElem_mem hi)) k hk q d W (Q72 (Q72 hg hb') hb) ((hsp.below hb').below hb) hkk
  have hV0 := hV w (Below.refl _ _)
  by_cases h8 : kd = 8
  ·subst h8; exact Qj7 k hk tx n a ks q d w ht hg hsp
  by_cases h9 : kd = 9
  ·subst h9; exact Qo8 k hk tx n a ks q d w
  by_cases h11 : kd = 11
  ·subst h11; exact Qqo k hk tx n a ks q d w hl hks (fun i hi => hV0 i hi k hk)
  by_cases h12 : kd = 12
  ·subst h12; exact Qn6 k hk tx n a ks q d w hl hks (fun i hi => hV0 i hi k hk)
  by_cases h13 : kd = 13
  ·subst h13; exact Qly k hk tx n a ks q d w hl (fun z hz => (hM.kid z hz).text) hg hsp hks (fun i hi => hV0 i hi k hk)
  by_cases h10 : kd = 10
  ·subst h10
   refine Qra k hk tx n a ks q d w (fun W hb => ?_)
   have hkW := hks.low hb
   have hVW := hV W hb
   match k, hk with
   | 0, _ => exact Qpn tx n a ks q d W hl hkW hVW
   | 1, _ => exact Qph tx n a ks q d W hl hkW hVW
   | 2, _ =>
    match ks, hM, hkW, hVW with
    | [], _, _, _ => exact Qry tx n a q d W
    | [x], _, hkW, hVW => exact Qm0 tx n a x q d W hkW hVW
    | [x, y], hM, hkW, hVW => exact Qqm tx n a x y q d W (fun z hz => (hM.kid z hz).len) hkW hVW
    | x :: y :: z :: l, _, _, _ => exact Qiu tx n a x y z l q d W
  exact Qsx k kd tx n a ks q d w h8 h9 h10 h11 h12 h13
theorem Qrc (t : Syn) (hM : Mod t) (k : Nat) (hk : k ≤ 2) (q : Option Addr) (d : Nat) (W : World) (hg : Q0q W) (hsp : Q0p W) (hks : KidR W t.kids (.slice q t.kids.length d)) :
  Calls Tryz.prog 56 #[.int .i64 k, Q3 t q d] W (Q6 W (okP k t)) := Qmb _ t (Nat.lt_succ_self _) hM k hk q d W hg hsp hks
end Go.Proofs.YtplbfmcgddnkeaaGreatDoor
namespace Go.Proofs.YtplbfmcgddnkeaaGreatDoor
def Qgd (t : Tok) : Prop := t.kind = 1 → t.text ≠ [] ∧ (∀ c ∈ t.text, Q9 c.toNat = true) ∧ dv 0 t.text ≤ 1048576
theorem Qsj {l : List UInt8} {n : Nat} (h : tok l = .ok (1, n)) : l.take n ≠ [] ∧ (∀ c ∈ l.take n, Q9 c.toNat = true) ∧ dv 0 (l.take n) ≤ 1048576 := by
 unfold tok at h
 by_cases h1 : Q1 Q5 l = 0
 ·rw [if_pos h1] at h; split at h <;> simp at h
 rw [if_neg h1] at h
 by_cases h2 : Q1 Q0a l = 0
 ·rw [if_pos h2] at h
  by_cases h3 : Q1 Q9 l < Q1 Q5 l
  ·rw [if_pos h3] at h; simp at h
  rw [if_neg h3] at h
  by_cases h4 : (Q24 0 (l.take (Q1 Q5 l))).isNone = true
  ·rw [if_pos h4] at h; simp at h
  rw [if_neg h4] at h
  simp only [Except.ok.injEq, Prod.mk.injEq, true_and] at h
  subst h
  have hle := Q2n Q5 l
  refine ⟨fun e => ?_, fun c hc => ?_, ?_⟩
  ·have : min (Q1 Q5 l) l.length = 0 := by rw [← List.length_take, e]; rfl
   omega
  ·refine Qbn Q9 l c ?_
   have hm := Q2n Q9 l
   have : l.take (Q1 Q5 l) = (l.take (Q1 Q9 l)).take (Q1 Q5 l) := by rw [List.take_take, Nat.min_eq_left (by omega)]
   rw [this] at hc
   exact List.mem_of_mem_take hc
  ·rw [Qb3 _ _ (by omega)] at h4
   split at h4
   ·assumption
   ·simp at h4
 ·rw [if_neg h2] at h
  split at h <;> simp at h
theorem Qit (f : Nat) : ∀ (p : Nat) (l : List UInt8) (ts : List Tok), Qz f p l = .ok ts → ∀ t ∈ ts, Qgd t ∧ t.text.length ≤ l.length := by
 induction f with
 | zero => intro p l ts h; simp [Qz] at h; subst h; simp
 | succ f ih =>
  intro p l ts h
  simp only [Qz] at h
  split at h
  ·simp only [Except.ok.injEq] at h; subst h
   intro t ht
   rw [List.mem_singleton.1 ht]
   exact ⟨fun h => by simp at h, by simp⟩
  ·rename_i c r hd
   have hlen : (c :: r).length ≤ l.length := by rw [← hd]; simp
   split at h
   ·simp at h
   ·rename_i kind n ht
    split at h
    ·simp at h
    ·rename_i us hu
     simp only [Except.ok.injEq] at h
     subst h
     intro t hm
     rcases List.mem_cons.1 hm with rfl | hm
     ·refine ⟨fun hk => ?_, by rw [List.length_take]; omega⟩
      have hk1 : kind = 1 := by simp only at hk; omega
      subst hk1
      exact Qsj ht
     ·obtain ⟨q1, q2⟩ := ih _ _ _ hu t hm
      refine ⟨q1, Nat.le_trans q2 ?_⟩
      rw [List.length_drop]; omega
theorem Qlx (f : Nat) : ∀ (p : Nat) (l : List UInt8) (ts : List Tok), l.length < f → Qz f p l = .ok ts → ∃ a t, ts = a ++ [t] ∧ t.kind = 3 := by
 induction f with
 | zero => intro p l ts hl; omega
 | succ f ih =>
  intro p l ts hl h
  simp only [Qz] at h
  split at h
  ·simp only [Except.ok.injEq] at h; subst h
   exact ⟨[], _, rfl, rfl⟩
  ·rename_i c r hd
   have hlen : (c :: r).length ≤ l.length := by rw [← hd]; simp
   split at h
   ·simp at h
   ·rename_i kind n ht
    have hp := Q31 ht
    split at h
    ·simp at h
    ·rename_i us hu
     simp only [Except.ok.injEq] at h
     subst h
     obtain ⟨a, t, rfl, hk⟩ := ih _ _ _ (by rw [List.length_drop]; omega) hu
     exact ⟨_ :: a, t, rfl, hk⟩
theorem Qf3 (x : UInt8) (r : List UInt8) : skip false (x :: r) = if x.toNat = 35 then skip true r + 1 else if Q01 x.toNat then skip false r + 1 else 0 := rfl
theorem Qdr (f : Nat) : ∀ (p : Nat) (l : List UInt8) (ts : List Tok), 0 < f → Qz f p l = .ok ts → l.length < f → ts ≠ [] := by
 induction f with
 | zero => intro p l ts h; omega
 | succ f ih =>
  intro p l ts _ h hl
  simp only [Qz] at h
  split at h
  ·simp at h; rw [← h]; simp
  ·split at h
   ·simp at h
   ·split at h
    ·simp at h
    ·simp at h; rw [← h]; simp
def Stand (s : List UInt8) : Nat → List Tok → Prop
 | at0, [] => at0 = s.length
 | at0, t :: r => (t.pos = (at0 + skip false (s.drop at0) : Nat)) ∧ at0 + skip false (s.drop at0) + t.text.length ≤ s.length ∧
   (s.drop (at0 + skip false (s.drop at0))).take t.text.length = t.text ∧ (t.kind = 3 ↔ r = []) ∧ Stand s (at0 + skip false (s.drop at0) + t.text.length) r
theorem Q60 {l : List UInt8} {k n : Nat} (h : tok l = .ok (k, n)) : k ≤ 2 := by
 unfold tok at h
 (repeat' split at h) <;> simp at h <;> omega
theorem Qrm (s : List UInt8) (f : Nat) : ∀ (p : Nat) (ts : List Tok), p ≤ s.length → (s.drop p).length < f → Qz f p (s.drop p) = .ok ts → Stand s p ts := by
 induction f with
 | zero => intro p ts _ h; omega
 | succ f ih =>
  intro p ts hp hf h
  have hk := Q3m false (s.drop p)
  rw [List.length_drop] at hk hf
  simp only [Qz, List.drop_drop] at h
  split at h
  ·rename_i hd
   simp only [Except.ok.injEq] at h
   subst h
   have : s.length ≤ p + skip false (s.drop p) := by
    have := congrArg List.length hd
    rw [List.length_drop, List.length_nil] at this; omega
   refine ⟨rfl, by simp; omega, by simp, by simp, ?_⟩
   simp only [List.length_nil, Nat.add_zero, Stand]; omega
  ·rename_i c r hd
   have hlen : (c :: r).length = s.length - (p + skip false (s.drop p)) := by rw [← hd, List.length_drop]
   cases ht : tok (c :: r) with
   | error x => rw [ht] at h; simp at h
   | ok x =>
    obtain ⟨kd, m⟩ := x
    have hm := Q31 ht
    have hkd := Q60 ht
    rw [ht] at h
    simp only [] at h
    rw [← hd, List.drop_drop] at h
    cases hr : Qz f (p + skip false (s.drop p) + m) (s.drop (p + skip false (s.drop p) + m)) with
    | error x => rw [hr] at h; simp at h
    | ok us =>
     rw [hr] at h
     simp only [Except.ok.injEq] at h
     subst h
     have hu := ih _ _ (by omega) (by rw [List.length_drop]; omega) hr
     have hl : ((s.drop (p + skip false (s.drop p))).take m).length = m := by rw [List.length_take, List.length_drop]; omega
     have hne : us ≠ [] := Qdr _ _ _ _ (by omega) hr (by rw [List.length_drop]; omega)
     refine ⟨rfl, ?_, ?_, ?_, ?_⟩
     ·rw [hl]; omega
     ·rw [hl]
     ·constructor
      ·intro e; simp only at e; omega
      ·intro e; exact absurd e hne
     ·rw [hl]; exact hu
theorem Qrl {s : List UInt8} {ts : List Tok} (h : scan s = .ok ts) : Stand s 0 ts ∧ ts ≠ [] := by
 unfold scan at h
 split at h
 ·simp at h
 ·exact ⟨Qrm s (s.length + 1) 0 ts (by omega) (by simp) (by simpa using h), Qdr _ _ _ _ (by omega) h (by omega)⟩
theorem tokClass {x : List UInt8} {k : Nat} (h : tok x = .ok (k, x.length)) : x ≠ [] ∧ ((k ≤ 1 ∧ Q1 Q5 x = x.length) ∨ (k = 2 ∧ x ∈ Qv)) := by
 have hp := Q31 h
 refine ⟨fun e => by subst e; simp at hp, ?_⟩
 by_cases hw : Q1 Q5 x = 0
 ·right
  rw [Q85 hw] at h
  split at h
  ·simp at h
  ·rename_i hne
   simp only [Except.ok.injEq, Prod.mk.injEq] at h
   refine ⟨h.1.symm, ?_⟩
   rcases Qcp Qv x with e | e
   ·exact absurd e hne
   ·have hl := h.2
    rw [Q5y] at e hl
    have := Q6r x
    rw [List.length_take] at hl
    rwa [List.take_of_length_le (by omega)] at e
 ·left
  have := Q9c h hw
  have := Q60 h
  omega
theorem Qrz {p : Int → Bool} {x : List UInt8} (y : List UInt8) (h : Q1 p x = x.length) : Q1 p (x ++ y) = x.length + Q1 p y := by
 induction x with
 | nil => simp
 | cons c r ih =>
  simp only [Q1] at h
  split at h
  ·rename_i hc
   rw [List.cons_append, Q1, if_pos hc, ih (by simpa using h)]; simp; omega
  ·simp at h
theorem Qe5 {p : Int → Bool} {x : List UInt8} (y : List UInt8) (h : Q1 p x < x.length) : Q1 p (x ++ y) = Q1 p x := by
 induction x with
 | nil => simp at h
 | cons c r ih =>
  simp only [Q1] at h ⊢
  rw [List.cons_append, Q1]
  split
  ·rename_i hc
   rw [if_pos hc] at h
   rw [ih (by simpa using h)]
  ·rfl
def fits (x y : List UInt8) : Prop := ∀ c, y.head? = some c → (0 < Q1 Q5 x → Q5 c.toNat = false) ∧ ¬ (x = [60] ∧ c = 61)
theorem Qj1 {p : Int → Bool} {y : List UInt8} (h : ∀ c, y.head? = some c → p c.toNat = false) : Q1 p y = 0 := by
 cases y with
 | nil => rfl
 | cons c r => rw [Q1, if_neg (by rw [h c rfl]; simp)]
theorem Qgg (c : Int) : Q5 c = false → Q0a c = false ∧ Q9 c = false := by
 unfold Q5; simp
theorem Qak {p : Int → Bool} (hp : ∀ c, Q5 c = false → p c = false) {x y : List UInt8} (hf : fits x y) (hx : x ≠ []) (hw : Q1 Q5 x = x.length) : Q1 p (x ++ y) = Q1 p x := by
 have hpos : 0 < Q1 Q5 x := by rw [hw]; exact List.length_pos_iff.2 hx
 by_cases h : Q1 p x = x.length
 ·rw [Qrz y h, Qj1 (fun c hc => hp _ ((hf c hc).1 hpos)), h]; rfl
 ·have := Q2n p x
  exact Qe5 y (by omega)
theorem Qrj : ∀ x ∈ Qv, ∀ y : List UInt8, ¬ (x = [60] ∧ y.head? = some 61) → Q0d (x ++ y) = x.length := by
 intro x hx y h
 simp only [Qv, List.mem_cons, List.not_mem_nil, or_false] at hx
 rcases hx with rfl | rfl | rfl | rfl | rfl | rfl | rfl | rfl | rfl | rfl | rfl | rfl | rfl
 all_goals cases y <;> simp_all [Q0d, Q1i]
theorem Qm8 {x y : List UInt8} {k : Nat} (h : tok x = .ok (k, x.length)) (hf : fits x y) : tok (x ++ y) = .ok (k, x.length) := by
 obtain ⟨hx, hc⟩ := tokClass h
 rcases hc with ⟨hk, hw⟩ | ⟨rfl, hm⟩
 ·have h1 := Qak (p := Q5) (fun _ h => h) hf hx hw
  have h2 := Qak (p := Q0a) (fun c h => (Qgg c h).1) hf hx hw
  have h3 := Qak (p := Q9) (fun c h => (Qgg c h).2) hf hx hw
  have hpos : 0 < Q1 Q5 x := by rw [hw]; exact List.length_pos_iff.2 hx
  have h4 : (x ++ y).take (Q1 Q5 x) = x.take (Q1 Q5 x) := List.take_append_of_le_length (Q2n _ _)
  rw [← h]
  unfold tok
  have hne : ¬ Q1 Q5 x = 0 := by omega
  rw [h1, h2, h3, h4, if_neg hne, if_neg hne]
 ·have h0 := Q99 x hm
  have hs : Q0d (x ++ y) = x.length := Qrj x hm y (fun e => (hf 61 e.2).2 ⟨e.1, rfl⟩)
  have h1 : Q1 Q5 (x ++ y) = 0 := by
   rw [Qe5 y (by rw [h0]; exact List.length_pos_iff.2 hx), h0]
  have hpos : 0 < x.length := List.length_pos_iff.2 hx
  unfold tok
  rw [if_pos h1, hs, if_neg (by omega)]
theorem Qda {p q : Int → Bool} (h : ∀ c, p c = true → q c = true) (l : List UInt8) : Q1 p l ≤ Q1 q l := by
 induction l with
 | nil => simp [Q1]
 | cons c r ih =>
  simp only [Q1]
  split
  ·rename_i hc; rw [if_pos (h _ hc)]; omega
  ·omega
theorem Qts (p : Int → Bool) (l : List UInt8) : ∀ c, (l.drop (Q1 p l)).head? = some c → p c.toNat = false := by
 induction l with
 | nil => simp [Q1]
 | cons x r ih =>
  intro c
  simp only [Q1]
  split
  ·rw [List.drop_succ_cons]; exact ih c
  ·rename_i hc
   intro h
   simp at h
   subst h; simpa using hc
theorem Qlv {s : List UInt8} {k n : Nat} (h : tok s = .ok (k, n)) : tok (s.take n) = .ok (k, (s.take n).length) ∧ fits (s.take n) (s.drop n) := by
 have hp := Q31 h
 have hl : (s.take n).length = n := by rw [List.length_take]; omega
 by_cases hw : Q1 Q5 s = 0
 ·have ht := Q85 hw
  rw [ht] at h
  split at h
  ·simp at h
  ·rename_i hne
   simp only [Except.ok.injEq, Prod.mk.injEq] at h
   obtain ⟨rfl, hn⟩ := h
   have hm := (Qcp Qv s).resolve_left hne
   have hle := Q6r s
   have hfp : Q11 Qv s = s.take n := by
    have e := Q5y s
    rw [e] at hn ⊢
    rw [List.length_take, Nat.min_eq_left hle] at hn
    rw [hn]
   rw [hfp] at hm
   rw [Qde _ hm]
   refine ⟨rfl, fun c hc => ⟨fun h => by rw [Q99 _ hm] at h; omega, ?_⟩⟩
   rintro ⟨e1, rfl⟩
   have e2 : s = 60 :: 61 :: (s.drop n).tail := by
    have e3 := (List.take_append_drop n s).symm
    rw [e1] at e3
    match hd : s.drop n, hc with
    | c :: r, hc =>
     simp at hc; subst hc
     rw [hd] at e3
     rw [e3]; rfl
   have : Q0d s = 2 := by rw [e2]; rfl
   rw [e1] at hl
   have e := Q5y s
   rw [e, List.length_take, this] at hn
   simp at hl
   omega
 ·have hk := Q9c h hw
  have hn := hk.2.2
  have h1 := Q7o (p := Q5) (l := s) hp.2
  have h2 := Q7o (p := Q0a) (l := s) hp.2
  have h3 := Q7o (p := Q9) (l := s) hp.2
  have m2 := Qda (p := Q0a) (q := Q5) (by intro c; unfold Q5; simp; intro h; exact .inl h) s
  have m3 := Qda (p := Q9) (q := Q5) (by intro c; unfold Q5; simp; intro h; exact .inr h) s
  have e4 : (s.take n).take (Q1 Q5 s) = s.take (Q1 Q5 s) := by rw [List.take_take, hn, Nat.min_self]
  constructor
  ·rw [hl, ← h]
   unfold tok
   rw [h1, h2, h3, hn, Nat.min_self, Nat.min_eq_right m2, Nat.min_eq_right m3, if_neg hw, if_neg hw, ← hn, List.take_take, Nat.min_self]
  ·intro c hc
   rw [hn] at hc ⊢
   have := Qts Q5 s c hc
   refine ⟨fun _ => this, ?_⟩
   rintro ⟨e1, _⟩
   have := Qbn Q5 s 60 (by rw [e1]; simp)
   exact absurd this (by decide)
def Good : List Tok → Prop
 | [] => False
 | t :: r => (t.kind = 3 ∧ t.text = [] ∧ r = []) ∨ ((∃ k : Nat, t.kind = k ∧ tok t.text = .ok (k, t.text.length)) ∧ Good r)
theorem Qmu (f : Nat) : ∀ (p : Nat) (l : List UInt8) (ts : List Tok), l.length < f → Qz f p l = .ok ts → Good ts ∧ (Q4d none ts).length ≤ l.length ∧ ∀ t0 : Tok, t0.kind ≠ 3 → (∃ k : Nat, t0.kind = k ∧ tok t0.text = .ok (k, t0.text.length)) → fits t0.text l → (Q4d (some t0) ts).length ≤ l.length := by
 induction f with
 | zero => intro p l ts h; omega
 | succ f ih =>
  intro p l ts hf h
  have hk := Q3m false l
  simp only [Qz] at h
  split at h
  ·simp only [Except.ok.injEq] at h
   subst h
   refine ⟨.inl ⟨rfl, rfl, rfl⟩, by simp [Q4d], fun t0 _ _ _ => ?_⟩
   simp [Q4d, gap, Q6l]
  ·rename_i c r hd
   have hlen : (c :: r).length = l.length - skip false l := by rw [← hd, List.length_drop]
   cases ht : tok (c :: r) with
   | error x => rw [ht] at h; simp at h
   | ok x =>
    obtain ⟨kd, n⟩ := x
    have hn := Q31 ht
    have hkd := Q60 ht
    have hcut := Qlv ht
    rw [ht] at h
    simp only [] at h
    cases hr : Qz f (p + skip false l + n) ((c :: r).drop n) with
    | error x => rw [hr] at h; simp at h
    | ok us =>
     rw [hr] at h
     simp only [Except.ok.injEq] at h
     subst h
     obtain ⟨g, _, hj⟩ := ih _ _ _ (by rw [List.length_drop]; omega) hr
     have hl : ((c :: r).take n).length = n := by rw [List.length_take]; omega
     have hJ := hj ⟨kd, (c :: r).take n, ((p + skip false l : Nat) : Int)⟩ (by simp only; omega) ⟨kd, rfl, hcut.1⟩ hcut.2
     rw [List.length_drop] at hJ
     refine ⟨.inr ⟨⟨kd, rfl, hcut.1⟩, g⟩, ?_, ?_⟩
     ·simp only [Q4d, List.length_append, hl]; omega
     ·intro t0 h3 hk0 hfit
      have hfm := Qha (kind := (kd : Int)) (s := (c :: r).take n) (by rw [← Q8t, Q3q, if_neg (by omega), if_neg (tokClass hcut.1).1, hcut.1]; simp) (by omega) (by omega)
      obtain ⟨k0, hk0e, hk0t⟩ := hk0
      have hk02 := Q60 hk0t
      have hf0 := Qha (kind := t0.kind) (s := t0.text) (by rw [← Q8t, Q3q, if_neg h3, if_neg (tokClass hk0t).1, hk0t]; simp [hk0e]) (by omega) (by omega)
      have hg : skip false l = 0 → gap t0 ⟨kd, (c :: r).take n, ((p + skip false l : Nat) : Int)⟩ = false := by
       intro h0
       rw [h0, List.drop_zero] at hd
       have hc := hfit c (by rw [hd]; rfl)
       unfold gap
       simp only
       rw [← hf0, ← hfm]
       rw [Bool.or_eq_false_iff, Bool.and_eq_false_iff, Bool.and_eq_false_iff]
       constructor
       ·by_cases hw : 0 < Q1 Q5 t0.text
        ·right
         have := hc.1 hw
         rw [decide_eq_false_iff_not]
         match n, hn with
         | n + 1, _ => rw [List.take_succ_cons, Q1, if_neg (by rw [this]; simp)]; omega
        ·left; simpa using hw
       ·by_cases hw : t0.text = [60]
        ·right
         rw [decide_eq_false_iff_not]
         intro e
         match n, hn with
         | n + 1, _ =>
          rw [List.take_succ_cons] at e
          simp only [List.cons.injEq] at e
          exact hc.2 ⟨hw, e.1⟩
        ·left; simpa using hw
      simp only [Q4d, List.length_append, hl]
      by_cases h0 : skip false l = 0
      ·rw [hg h0]
       simp only [Bool.false_eq_true, if_false, List.length_nil]; omega
      ·have : (if gap t0 ⟨kd, (c :: r).take n, ((p + skip false l : Nat) : Int)⟩ then [32] else ([] : List UInt8)).length ≤ 1 := by split <;> simp
       omega
theorem Qsl {x : List UInt8} {k : Nat} (h : tok x = .ok (k, x.length)) (y : List UInt8) : skip false (x ++ y) = 0 := by
 obtain ⟨hx, hc⟩ := tokClass h
 match x, hx with
 | c :: r, _ =>
  have hh : c.toNat ≠ 35 ∧ Q01 c.toNat = false := by
   rcases hc with ⟨_, hw⟩ | ⟨_, hm⟩
   ·have := Qgj hw c (by simp)
    constructor
    ·intro e; rw [e] at this; exact absurd this (by decide)
    ·cases hb : Q01 c.toNat
     ·rfl
     ·have : Q5 c.toNat = false := by
       simp [Q01] at hb
       rcases hb with ((e | e) | e) | e <;> rw [show (c.toNat : Int) = _ from e] <;> decide
      simp_all
   ·simp only [Qv, List.mem_cons, List.not_mem_nil, or_false, List.cons.injEq] at hm
    rcases hm with h | h | h | h | h | h | h | h | h | h | h | h | h <;> (obtain ⟨rfl, _⟩ := h; decide)
  rw [List.cons_append, Qf3, if_neg hh.1, if_neg (by rw [hh.2]; simp)]
theorem Qmc (ts : List Tok) : Good ts → Q7f ts = 0 := by
 induction ts with
 | nil => intro h; exact absurd h (by simp [Good])
 | cons t r ih =>
  intro h
  rw [Q7f]
  rcases h with ⟨h3, hx, rfl⟩ | ⟨⟨k, hk, ht⟩, hr⟩
  ·have : Q44 ([] : List Tok).isEmpty t = 0 := by
    unfold Q44
    rw [if_neg (by omega), h3, hx]; rfl
   rw [if_pos this]; rfl
  ·have h2 := Q60 ht
   have hf : Q0c t.kind t.text = true := by rw [← Q8t, Q3q, if_neg (by omega), if_neg (tokClass ht).1, ht]; simp [hk]
   have : Q44 r.isEmpty t = 0 := by
    unfold Q44
    rw [if_neg (by omega), if_neg (by rw [hf]; simp), if_neg (by omega)]
   rw [if_pos this]
   exact ih hr
theorem Qle {l : List UInt8} {d e : Nat} (h : tok l = .error (d, e)) : 0 < e := by
 unfold tok at h
 (repeat' split at h) <;> simp at h <;> omega
theorem Qof (f : Nat) : ∀ (p : Nat) (l : List UInt8) (d e : Nat), Qz f p l = .error (d, e) → 0 < e := by
 induction f with
 | zero => intro p l d e h; simp [Qz] at h
 | succ f ih =>
  intro p l d e h
  simp only [Qz] at h
  split at h
  ·simp at h
  ·split at h
   ·rename_i ht
    simp only [Except.error.injEq, Prod.mk.injEq] at h
    have := Qle ht
    omega
   ·split at h
    ·rename_i x hx
     simp only [Except.error.injEq] at h
     subst h
     exact ih _ _ _ _ hx
    ·simp at h
theorem Q6a {l : List UInt8} {d e : Nat} (h : scan l = .error (d, e)) : 0 < e := by
 unfold scan at h
 split at h
 ·simp only [Except.error.injEq, Prod.mk.injEq] at h; omega
 ·exact Qof _ _ _ _ _ h
section
def On {α : Type} (T : List Tok) (i : Nat) (o : Out α) : Prop := ∀ a j, o = .ok a j → i < j ∧ j < T.length
def On0 {α : Type} (T : List Tok) (i : Nat) (o : Out α) : Prop := ∀ a j, o = .ok a j → i ≤ j ∧ j < T.length
section
variable {T : List Tok} {i lv : Nat} (hl : (tk T (T.length - 1)).kind = 3) {res : List UInt8 → Bool}
theorem Q04 (hl : (tk T (T.length - 1)).kind = 3) (hi : i < T.length) (hk : (tk T i).kind ≠ 3) : nx T i = i + 1 ∧ i + 1 < T.length := by
 have : i + 1 < T.length := by
  rcases Nat.lt_or_ge (i + 1) T.length with h | h
  ·exact h
  ·have : i = T.length - 1 := by omega
   subst this; exact absurd hl hk
 exact ⟨if_pos this, this⟩
theorem Qc {ws : List (List UInt8)} (h : isW T ws i = true) : (tk T i).kind ≠ 3 := by
 intro e
 unfold isW at h
 rw [e] at h
 simp at h
theorem On.bind {α β : Type} {o : Out α} {f : α → Nat → Out β} (h : On T i o) (hf : ∀ a j, i < j → j < T.length → On0 T j (f a j)) : On T i (o.bind f) := by
 cases o with
 | none => intro b j e; cases e
 | err p e => intro b j e; cases e
 | ok a k =>
  obtain ⟨h1, h2⟩ := h a k rfl
  intro b j e
  obtain ⟨h3, h4⟩ := hf a k h1 h2 b j e
  exact ⟨by omega, h4⟩
theorem On.zero {α : Type} {o : Out α} (h : On T i o) : On0 T i o := fun a j e => ⟨Nat.le_of_lt (h a j e).1, (h a j e).2⟩
theorem On0.bind {α β : Type} {o : Out α} {f : α → Nat → Out β} (h : On0 T i o) (hf : ∀ a j, i ≤ j → j < T.length → On0 T j (f a j)) : On0 T i (o.bind f) := by
 cases o with
 | none => intro b j e; cases e
 | err p e => intro b j e; cases e
 | ok a k =>
  obtain ⟨h1, h2⟩ := h a k rfl
  intro b j e
  obtain ⟨h3, h4⟩ := hf a k h1 h2 b j e
  exact ⟨by omega, h4⟩
theorem On0.ok {α : Type} {a : α} (hi : i < T.length) : On0 T i (.ok a i) := fun b j e => by cases e; exact ⟨Nat.le_refl _, hi⟩
theorem On.step {α : Type} {a : α} (hl : (tk T (T.length - 1)).kind = 3) (hi : i < T.length) (hk : (tk T i).kind ≠ 3) : On T i (.ok a (nx T i)) := fun b j e => by
 obtain ⟨h1, h2⟩ := Q04 hl hi hk
 cases e; omega
theorem On.fail {α : Type} (e : Nat) : On T i (fail T e i : Out α) := fun _ _ e => by cases e
theorem Q2m (hl : (tk T (T.length - 1)).kind = 3) (s : List UInt8) (hi : i < T.length) : On T i (need T s i) := by
 unfold need
 split
 ·rename_i h; exact On.step hl hi (Qc h)
 ·exact On.fail _
theorem Q67 (hl : (tk T (T.length - 1)).kind = 3) (hi : i < T.length) : On T i (name res T i) := by
 unfold name
 split
 ·exact On.fail _
 ·rename_i h
  refine On.step hl hi fun e => h (.inl ?_)
  rw [e]; decide
theorem Q29 (hl : (tk T (T.length - 1)).kind = 3) (hi : i < T.length) : On T i (number T i) := by
 unfold number
 split
 ·exact On.fail _
 ·rename_i h
  refine On.step hl hi fun e => h ?_
  rw [e]; decide
theorem On.behind {α : Type} {o : Out α} (hl : (tk T (T.length - 1)).kind = 3) (hi : i < T.length) (hk : (tk T i).kind ≠ 3) (h : ∀ j, i < j → j < T.length → nx T i = j → On0 T j o) : On T i o := fun a j e => by
 obtain ⟨h1, h2⟩ := Q04 hl hi hk
 obtain ⟨h3, h4⟩ := h (i + 1) (by omega) h2 h1 a j e
 exact ⟨by omega, h4⟩
def OnR (T : List Tok) (r : Rd) : Prop := ∀ lv i, i < T.length → On T i (r lv i)
theorem Q6d {r : Rd} (hr : OnR T r) (hi : i < T.length) : On T i (within T r lv i) := by
 unfold within
 split
 ·exact On.fail _
 ·exact hr _ _ hi
theorem Q9i {r : Rd} (hl : (tk T (T.length - 1)).kind = 3) (hr : OnR T r) (hi : i < T.length) : On T i (parens T r lv i) :=
 (Q2m hl _ hi).bind fun _ _ _ h => ((Q6d hr h).bind fun _ _ _ h => ((Q2m hl _ h).bind fun _ _ _ h => On0.ok h).zero).zero
theorem Qs9 {rs : List Rd} (hl : (tk T (T.length - 1)).kind = 3) (hr : ∀ r ∈ rs, OnR T r) : ∀ i, i < T.length → On0 T i (Qt.argsMore T rs lv i) := by
 induction rs with
 | nil => intro i hi; exact On0.ok hi
 | cons r rs ih =>
  intro i hi
  exact ((Q2m hl _ hi).bind fun _ _ _ h => ((hr r (List.mem_cons_self ..) _ _ h).bind fun _ _ _ h => (ih (fun r h => hr r (List.mem_cons_of_mem _ h)) _ h).bind fun _ _ _ h => On0.ok h).zero).zero
theorem Qfd {rs : List Rd} (hl : (tk T (T.length - 1)).kind = 3) (hr : ∀ r ∈ rs, OnR T r) (hi : i < T.length) : On0 T i (Qt T rs lv i) := by
 cases rs with
 | nil => exact On0.ok hi
 | cons r rs => exact ((hr r (List.mem_cons_self ..) _ _ hi).bind fun _ _ _ h => (Qs9 hl (fun r h => hr r (List.mem_cons_of_mem _ h)) _ h).bind fun _ _ _ h => On0.ok h).zero
theorem Q7l {rs : List Rd} {w : Tok} (hl : (tk T (T.length - 1)).kind = 3) (hr : ∀ r ∈ rs, OnR T r) (hi : i < T.length) : On T i (arguments T w rs lv i) :=
 (Q2m hl _ hi).bind fun _ _ _ h => by
  split
  ·exact (On.fail _).zero
  ·exact (Qfd hl hr h).bind fun _ _ _ h => ((Q2m hl _ h).bind fun _ _ _ h => On0.ok h).zero
theorem Ql2 {r : Rd} {ops : List (List UInt8)} (hl : (tk T (T.length - 1)).kind = 3) (hr : OnR T r) (g : Nat) : ∀ x i, i < T.length → On0 T i (Q1b T r ops lv g x i) := by
 induction g with
 | zero => intro x i _ a j e; cases e
 | succ g ih =>
  intro x i hi
  unfold Q1b
  split
  ·rename_i h
   refine (On.behind hl hi (Qc h) fun j h1 h2 e => ?_).zero
   rw [e]
   exact ((hr _ _ h2).bind fun _ _ _ h => ih _ _ h).zero
  ·exact On0.ok hi
theorem Q57 {r : Rd} {ops : List (List UInt8)} (hl : (tk T (T.length - 1)).kind = 3) (hr : OnR T r) : OnR T (left T r ops) := fun _ _ hi => (hr _ _ hi).bind fun _ _ _ h => Ql2 hl hr _ _ _ h
theorem Qhj (hl : (tk T (T.length - 1)).kind = 3) (g : Nat) : ∀ xs i, i < T.length → On0 T i (Q1q T g xs i) := by
 induction g with
 | zero => intro x i _ a j e; cases e
 | succ g ih =>
  intro x i hi
  unfold Q1q
  split
  ·rename_i h
   refine (On.behind hl hi (Qc h) fun j h1 h2 e => ?_).zero
   rw [e]
   exact ((Q29 hl h2).bind fun _ _ _ h => ih _ _ h).zero
  ·exact On0.ok hi
theorem Q9d (hl : (tk T (T.length - 1)).kind = 3) (hi : i < T.length) : On T i (setR T i) := by
 unfold setR
 split
 ·rename_i h; exact On.step hl hi (Qc h)
 ·refine (Q2m hl _ hi).bind fun _ j _ hj => ?_
  split
  ·rename_i h; exact (On.step hl hj (Qc h)).zero
  ·exact ((Q29 hl hj).bind fun _ _ _ h => (Qhj hl _ _ _ h).bind fun _ _ _ h => ((Q2m hl _ h).bind fun _ _ _ h => On0.ok h).zero).zero
theorem Qer {r : Rd} (hl : (tk T (T.length - 1)).kind = 3) (hr : OnR T r) (hi : i < T.length) (hk : (tk T i).kind ≠ 3) : On T i (notR T r lv i) :=
 On.behind hl hi hk fun j _ h2 e => by
  unfold notR
  rw [e]
  exact ((Q6d hr h2).bind fun _ _ _ h => On0.ok h).zero
theorem Q4a (hl : (tk T (T.length - 1)).kind = 3) (f : Nat) : ∀ nt, OnR T (rd res T f nt) := by
 induction f with
 | zero => intro nt lv i _ a j e; cases e
 | succ f ih =>
  intro nt
  cases nt with
  | cond => exact Q57 hl (ih _)
  | conj => exact Q57 hl (ih _)
  | sum => exact Q57 hl (ih _)
  | scheme => exact Q57 hl (ih _)
  | term => exact Q57 hl (ih _)
  | disj => exact Q57 hl (ih _)
  | meet => exact Q57 hl (ih _)
  | neg =>
   intro lv i hi
   show On T i (if _ then _ else if _ then _ else _)
   split
   ·rename_i h; exact Qer hl (ih _) hi (Qc h)
   ·split
    ·rename_i h
     refine On.behind hl hi (Qc h) fun j _ h2 e => ?_
     rw [e]
     exact ((Q67 hl h2).bind fun _ _ _ h => ((Q2m hl _ h).bind fun _ _ _ h => ((Q6d (ih _) h).bind fun _ _ _ h => On0.ok h).zero).zero).zero
    ·refine (ih .sum lv i hi).bind fun x j _ hj => ?_
     split
     ·rename_i h
      refine (On.behind hl hj (Qc h) fun k _ h2 e => ?_).zero
      rw [e]
      exact ((ih .sum lv _ h2).bind fun _ _ _ h => On0.ok h).zero
     ·exact On0.ok hj
  | unit =>
   intro lv i hi
   show On T i (if _ then _ else if _ then _ else if _ then _ else if _ then _ else if _ then _ else _)
   split
   ·exact Q29 hl hi
   ·split
    ·rename_i h
     refine On.behind hl hi (Qc h) fun j _ h2 e => ?_
     rw [e]
     exact (Q7l hl (fun r hr => by rw [List.mem_singleton.1 hr]; exact ih _) h2).zero
    ·split
     ·rename_i h
      refine On.behind hl hi (Qc h) fun j _ h2 e => ?_
      rw [e]
      exact (Q7l hl (fun r hr => by simp only [List.mem_cons, List.not_mem_nil, or_false, or_self] at hr; rw [hr]; exact ih _) h2).zero
     ·split
      ·rename_i h
       refine On.behind hl hi (Qc h) fun j _ h2 e => ?_
       rw [e]
       exact ((Q67 hl h2).bind fun _ _ _ h => ((Q9i hl (ih _) h).bind fun _ _ _ h => On0.ok h).zero).zero
      ·split
       ·exact Q9i hl (ih _) hi
       ·exact Q67 hl hi
  | factor =>
   intro lv i hi
   refine (ih .atom lv i hi).bind fun x j _ hj => ?_
   split
   ·rename_i h
    refine (On.behind hl hj (Qc h) fun k _ h2 e => ?_).zero
    rw [e]
    exact ((Q29 hl h2).bind fun _ _ _ h => ((Q6d (ih _) h).bind fun _ _ _ h => On0.ok h).zero).zero
   ·exact On0.ok hj
  | atom =>
   intro lv i hi
   show On T i (if _ then _ else if _ then _ else if _ then _ else if _ then _ else _)
   split
   ·rename_i h
    refine On.behind hl hi (Qc h) fun j _ h2 e => ?_
    rw [e]
    exact (Q7l hl (fun r hr => by rw [List.mem_singleton.1 hr]; exact fun _ _ h => Q29 hl h) h2).zero
   ·split
    ·rename_i h; exact On.step hl hi (Qc h)
    ·split
     ·rename_i h
      refine On.behind hl hi (Qc h) fun j _ h2 e => ?_
      rw [e]
      exact (Q7l hl (fun r hr => by rw [List.mem_singleton.1 hr]; exact ih _) h2).zero
     ·split
      ·exact Q9i hl (ih _) hi
      ·exact Q67 hl hi
  | formula =>
   intro lv i hi
   refine (ih .disj lv i hi).bind fun x j _ hj => ?_
   split
   ·rename_i h
    refine (On.behind hl hj (Qc h) fun k _ h2 e => ?_).zero
    rw [e]
    exact ((Q6d (ih _) h2).bind fun _ _ _ h => On0.ok h).zero
   ·exact On0.ok hj
  | lit =>
   intro lv i hi
   show On T i (if _ then _ else if _ then _ else if _ then _ else if _ then _ else if _ then _ else if _ then _ else if _ then _ else if _ then _ else _)
   have hargs : ∀ rs, isW T rs i = true → ∀ rds : List Rd, (∀ r ∈ rds, OnR T r) → On T i (arguments T (tk T i) rds lv (nx T i)) := fun rs h rds hr =>
    On.behind hl hi (Qc h) fun j _ h2 e => by rw [e]; exact (Q7l hl hr h2).zero
   have hnum : OnR T (fun _ => number T) := fun _ _ h => Q29 hl h
   have hset : OnR T (fun _ => setR T) := fun _ _ h => Q9d hl h
   split
   ·rename_i h; exact Qer hl (ih _) hi (Qc h)
   ·split
    ·rename_i h; exact On.step hl hi (Qc h)
    ·split
     ·exact Q9i hl (ih _) hi
     ·split
      ·rename_i h; exact hargs _ h _ fun r hr => by simp only [List.mem_cons, List.not_mem_nil, or_false, or_self] at hr; rw [hr]; exact hnum
      ·split
       ·rename_i h; exact hargs _ h _ fun r hr => by rw [List.mem_singleton.1 hr]; exact hnum
       ·split
        ·rename_i h; exact hargs _ h _ fun r hr => by
          simp only [List.mem_cons, List.not_mem_nil, or_false] at hr
          rcases hr with rfl | rfl
          ·exact hnum
          ·exact ih _
        ·split
         ·rename_i h; exact hargs _ h _ fun r hr => by
           simp only [List.mem_cons, List.not_mem_nil, or_false] at hr
           rcases hr with rfl | rfl
           ·exact hset
           ·exact ih _
         ·split
          ·rename_i h; exact hargs _ h _ fun r hr => by rw [List.mem_singleton.1 hr]; exact ih _
          ·exact On.fail _
end
end
end Go.Proofs.YtplbfmcgddnkeaaGreatDoor
