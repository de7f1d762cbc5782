/- Walks of functions, and plain facts. -/
import Derived.Test.YtplbfmcgddnkeaaGreatDoorC35
import Derived.Test.YtplbfmcgddnkeaaGreatDoorC30
import Derived.Test.YtplbfmcgddnkeaaGreatDoorC15
import Derived.Test.YtplbfmcgddnkeaaGreatDoorC29
import Derived.Test.YtplbfmcgddnkeaaGreatDoorC04
import Derived.Test.YtplbfmcgddnkeaaGreatDoorC16
import Derived.Test.YtplbfmcgddnkeaaGreatDoorC20
import Derived.Test.YtplbfmcgddnkeaaGreatDoorC21
import Derived.Test.YtplbfmcgddnkeaaGreatDoorC01
set_option linter.unusedVariables false
set_option linter.unusedSimpArgs false
set_option maxHeartbeats 20000000
set_option maxRecDepth 100000
namespace Go.Proofs.YtplbfmcgddnkeaaGreatDoor
open Go.RowKit
def wrW (k : Nat) (t : Syn) : List UInt8 := if t.kind = 9 then dec t.num.toNat else if k = 0 then wrc t else if k = 1 then wrs t else if t.kind = 14 then wset t else wrf t
def okW (k : Nat) (t : Syn) : Prop := Q2 t = true ∨ (k = 0 ∧ okc t = true) ∨ (k = 1 ∧ oks t = true) ∨ (k = 2 ∧ (okf t = true ∨ Qk t = true))
theorem Q7t {t : Syn} (h : Q2 t = true) : ∃ n : Nat, n ≤ 1048576 ∧ ∃ a, t = .mk 9 [] n a [] := by
 obtain ⟨k, tx, n, a, ks⟩ := t
 have hn := Q7x h
 unfold Q2 at h
 simp only [Bool.and_eq_true] at h
 obtain ⟨⟨⟨h1, h2⟩, -⟩, h4⟩ := h
 obtain rfl : k = 9 := of_decide_eq_true h1
 obtain rfl : tx = [] := beq_iff_eq.1 h2
 have hk : ks = [] := by cases ks with | nil => rfl | cons x l => cases h4
 subst hk
 unfold natB at hn
 simp only [Bool.and_eq_true, decide_eq_true_eq] at hn
 have hn : 0 ≤ n ∧ n ≤ 1048576 := hn
 exact ⟨n.toNat, by omega, a, by rw [Int.toNat_of_nonneg hn.1]⟩
theorem Qh1 {t : Syn} (h : isNm t = true) : ∃ tx a, t = .mk 8 tx 0 a [] := by
 obtain ⟨k, tx, n, a, ks⟩ := t
 unfold isNm at h
 simp only [Bool.and_eq_true] at h
 obtain ⟨⟨⟨h1, h2⟩, h3⟩, -⟩ := h
 obtain rfl : k = 8 := of_decide_eq_true h1
 obtain rfl : n = 0 := of_decide_eq_true h2
 have hk : ks = [] := by cases ks with | nil => rfl | cons x l => cases h3
 subst hk
 exact ⟨tx, a, rfl⟩
theorem Qff {k : Nat} {t : Syn} (h : Q2 t = true) : wrW k t = dec t.num.toNat := by
 obtain ⟨n, -, a, rfl⟩ := Q7t h; rfl
theorem Qac {t : Syn} (h : Q2 t = true) : wrc t = dec t.num.toNat := by
 obtain ⟨n, -, a, rfl⟩ := Q7t h; rfl
theorem Q2w {t : Syn} (h : okc t = true) : wrW 0 t = wrc t := by
 unfold wrW
 by_cases h9 : t.kind = 9
 ·rw [if_pos h9]
  rw [Q4h, Q4e (by decide) h9] at h
  exact (Qac (by simpa using h)).symm
 ·rw [if_neg h9, if_pos rfl]
theorem Q58 {t : Syn} (h : oks t = true) : wrW 1 t = wrs t := by
 unfold wrW
 by_cases h9 : t.kind = 9
 ·rw [Q6h, Q4e (by decide) h9] at h; simp at h
 ·rw [if_neg h9, if_neg (by decide), if_pos rfl]
theorem Q3n {t : Syn} (h : okf t = true) : wrW 2 t = wrf t := by
 unfold wrW
 by_cases h9 : t.kind = 9
 ·rw [Q8n, Q4e (by decide) h9] at h; simp at h
 ·rw [if_neg h9, if_neg (by decide), if_neg (by decide), if_neg]
  intro h14
  rw [Q8n, Q5w (by rw [h14]; decide) (by rw [h14]; decide) (by rw [h14]; decide) (by rw [h14]; decide) (by rw [h14]; decide) (by rw [h14]; decide)] at h
  cases h
theorem Qew {t : Syn} (h : Qk t = true) : t.kind = 14 := by
 unfold Qk at h
 simp only [Bool.and_eq_true] at h
 exact of_decide_eq_true h.1.1
theorem Q52 {t : Syn} (h : Q2 t = true ∨ Qk t = true) : wrW 2 t = warg t := by
 rcases h with h | h
 ·obtain ⟨n, -, a, rfl⟩ := Q7t h; rfl
 ·have hk := Qew h
  unfold wrW warg
  rw [if_neg (by rw [hk]; decide), if_neg (by decide), if_neg (by decide), if_pos hk, if_neg (by rw [hk]; decide)]
theorem Q6u {k : Nat} {t : Syn} (h : okW k t) : (wrW k t).length ≤ mass t := by
 rcases h with h | ⟨rfl, h⟩ | ⟨rfl, h⟩ | ⟨rfl, h | h⟩
 ·rw [Qff h, ← Qac h]; exact Q7z _ t (Nat.lt_succ_self _) (Q8i h)
 ·rw [Q2w h]; exact Q7z _ t (Nat.lt_succ_self _) h
 ·rw [Q58 h]; exact Qcw _ t (Nat.lt_succ_self _) h
 ·rw [Q3n h]; exact Qcf _ t (Nat.lt_succ_self _) h
 ·rw [Q52 (.inr h)]; exact Q9w (.inr h)
def Lv3 (a b : Nat) : Prop := (a = 0 ∧ b = 0) ∨ (a = 1 ∧ b = 1) ∨ (a = 2 ∧ b = 2) ∨ (a = 5 ∧ b = 4)
theorem Qdh {x : Syn} (h : oks x = true) : Lv3 (lvl 1 x) (rlvl 1 x) := by
 unfold lvl rlvl
 by_cases h11 : x.kind = 11
 ·rw [if_pos h11, if_neg (by rw [h11]; simp), if_neg (by rw [h11]; simp), if_neg (by simp [h11])]
  have ho : sOps.contains x.text = true := by
   rw [Q6h, Q49 (by decide) h11, Bool.and_eq_true, Bool.and_eq_true, Bool.and_eq_true, Qbw] at h
   exact h.1.1.1
  have ho := List.contains_iff_mem.1 ho
  simp only [List.mem_cons, List.not_mem_nil, or_false] at ho
  unfold Lv3
  rcases ho with e | e | e <;> rw [e] <;> decide
 ·rw [if_neg h11, if_neg (by rintro ⟨h, -⟩; cases h)]
  have h13 : ¬ x.kind = 13 := fun e => by rw [Q6h, Q6o (by decide) e] at h; simp at h
  rw [if_neg (by rintro ⟨h, -⟩; exact h13 h), if_neg (by rintro ⟨-, h⟩; cases h), if_pos h11]
  unfold Lv3; simp
theorem Qae {x : Syn} (h : okf x = true) : Lv3 (lvl 2 x) (rlvl 2 x) := by
 unfold lvl rlvl
 by_cases h11 : x.kind = 11
 ·rw [if_pos h11, if_neg (by rw [h11]; simp), if_neg (by rw [h11]; simp), if_neg (by simp [h11])]
  have ho : fOps.contains x.text = true := by
   rw [Q8n, Q49 (by decide) h11, Bool.and_eq_true, Bool.and_eq_true, Bool.and_eq_true, Qay] at h
   exact h.1.1.1
  have ho := List.contains_iff_mem.1 ho
  simp only [List.mem_cons, List.not_mem_nil, or_false] at ho
  unfold Lv3
  rcases ho with e | e | e <;> rw [e] <;> decide
 ·rw [if_neg h11, if_neg (by rintro ⟨h, -⟩; cases h)]
  have h13 : ¬ x.kind = 13 := fun e => by rw [Q8n, Q6o (by decide) e] at h; simp at h
  rw [if_neg (by rintro ⟨h, -⟩; exact h13 h), if_neg (by rintro ⟨-, h⟩; cases h), if_pos h11]
  unfold Lv3; simp
theorem Qf6 {op : List UInt8} (h : sOps.contains op = true) {a b : Nat} (hl : Lv3 a b) : (a < lft 1 op ↔ b < rlft 1 op) ∧ (a < rgt 1 op ↔ b < rrgt 1 op) := by
 have ho := List.contains_iff_mem.1 h
 simp only [List.mem_cons, List.not_mem_nil, or_false] at ho
 unfold Lv3 at hl
 have e : (lft 1 op = 0 ∧ rlft 1 op = 0 ∧ rgt 1 op = 1 ∧ rrgt 1 op = 1) ∨ (lft 1 op = 1 ∧ rlft 1 op = 1 ∧ rgt 1 op = 2 ∧ rrgt 1 op = 2) ∨ (lft 1 op = 3 ∧ rlft 1 op = 3 ∧ rgt 1 op = 2 ∧ rrgt 1 op = 2) := by
  rcases ho with e | e | e <;> rw [e] <;> decide
 rcases e with ⟨e1, e2, e3, e4⟩ | ⟨e1, e2, e3, e4⟩ | ⟨e1, e2, e3, e4⟩ <;> (simp only [e1, e2, e3, e4]; clear e1 e2 e3 e4 ho h; omega)
theorem Qi0 {op : List UInt8} (h : fOps.contains op = true) {a b : Nat} (hl : Lv3 a b) : (a < lft 2 op ↔ b < rlft 2 op) ∧ (a < rgt 2 op ↔ b < rrgt 2 op) := by
 have ho := List.contains_iff_mem.1 h
 simp only [List.mem_cons, List.not_mem_nil, or_false] at ho
 unfold Lv3 at hl
 have e : (lft 2 op = 1 ∧ rlft 2 op = 1 ∧ rgt 2 op = 0 ∧ rrgt 2 op = 0) ∨ (lft 2 op = 1 ∧ rlft 2 op = 1 ∧ rgt 2 op = 2 ∧ rrgt 2 op = 2) ∨ (lft 2 op = 2 ∧ rlft 2 op = 2 ∧ rgt 2 op = 3 ∧ rrgt 2 op = 3) := by
  rcases ho with e | e | e <;> rw [e] <;> decide
 rcases e with ⟨e1, e2, e3, e4⟩ | ⟨e1, e2, e3, e4⟩ | ⟨e1, e2, e3, e4⟩ <;> (simp only [e1, e2, e3, e4]; clear e1 e2 e3 e4 ho h; omega)
theorem Q5n {k : Int} {tx : List UInt8} {n a : Int} {ks : List Syn} {x : Syn} (hx : x ∈ ks) : mass x + 2 * tx.length ≤ mass (.mk k tx n a ks) := by
 rw [Qr]
 have := Qcn hx
 omega
theorem Qjq (b1 b2 b3 : Bool) (s : List UInt8) (h : b2 = !b3) : par (b1 && b2) (par b3 s) = par (b1 || b3) s := by
 subst h
 cases b1 <;> cases b3 <;> rfl
theorem dlt {a b c d : Nat} (h : a < b ↔ c < d) : decide (c < d) = decide (a < b) := decide_eq_decide.2 h.symm
theorem Qqb : ∀ (z : Nat) (t : Syn), SizeOf.sizeOf t < z → Mod t → mass t ≤ 1000000 → ∀ (k : Nat) (K : Int), KK k K → okW k t → ∀ (q : Option Addr) (d : Nat) (w : World), KidR w t.kids (.slice q t.kids.length d) →
  Calls Tryz.prog 63 #[Q3 t q d, .int .i64 K] w (Qh w (wrW k t)) := by
 intro z
 induction z with
 | zero => intro t h; omega
 | succ z ih =>
  intro t hz hM hms k K hK hok q d w hks
  have oper : ∀ x, x ∈ t.kids → ∀ (k : Nat) (K : Int), KK k K → okW k x → ∀ (need : Nat) q d W, Below w.heap.size w W → KidR W x.kids (.slice q x.kids.length d) → Calls Tryz.prog 118 #[Q3 x q d, .int .i64 K, .int .i64 need] W (Qh W (par (decide (rlvl k x < need)) (wrW k x))) := by
   intro x hx k K hK hok need q d W hb hk
   have hsz : SizeOf.sizeOf x < SizeOf.sizeOf t := by
    obtain ⟨a1, a2, a3, a4, ks⟩ := t
    have := List.sizeOf_lt_of_mem hx
    simp only [Syn.mk.sizeOf_spec, Syn.kids] at this ⊢
    omega
   have hmx : mass x ≤ 1000000 := by
    obtain ⟨a1, a2, a3, a4, ks⟩ := t
    have := Q5n (k := a1) (tx := a2) (n := a3) (a := a4) (ks := ks) hx; omega
   exact Qt5 hK x q d need _ (by have := Q6u hok; omega) W fun W' hb' => ih x (by omega) (hM.kid x hx) hmx k K hK hok q d W' (hk.low hb')
  have sub : ∀ x, x ∈ t.kids → ∀ (k : Nat) (K : Int), KK k K → okW k x → ∀ q d W, Below w.heap.size w W → KidR W x.kids (.slice q x.kids.length d) → Calls Tryz.prog 63 #[Q3 x q d, .int .i64 K] W (Qh W (wrW k x)) := by
   intro x hx k K hK hok q d W hb hk
   have hsz : SizeOf.sizeOf x < SizeOf.sizeOf t := by
    obtain ⟨a1, a2, a3, a4, ks⟩ := t
    have := List.sizeOf_lt_of_mem hx
    simp only [Syn.mk.sizeOf_spec, Syn.kids] at this ⊢
    omega
   have hmx : mass x ≤ 1000000 := by
    obtain ⟨a1, a2, a3, a4, ks⟩ := t
    have := Q5n (k := a1) (tx := a2) (n := a3) (a := a4) (ks := ks) hx; omega
   exact ih x (by omega) (hM.kid x hx) hmx k K hK hok q d W hk
  have len : ∀ x, x ∈ t.kids → ∀ k, okW k x → ∀ b, (par b (wrW k x)).length ≤ 10000000 := by
   intro x hx k hok b
   have hmx : mass x ≤ 1000000 := by
    obtain ⟨a1, a2, a3, a4, ks⟩ := t
    have := Q5n (k := a1) (tx := a2) (n := a3) (a := a4) (ks := ks) hx; omega
   have := Q6u hok
   have := Q2o b (wrW k x)
   omega
  rcases hok with hn | ⟨rfl, ho⟩ | ⟨rfl, ho⟩ | ⟨rfl, ho⟩
  ·obtain ⟨n, hn2, a, rfl⟩ := Q7t hn
   exact Qe4 [] n hn2 a q 0 d K w
  ·obtain rfl : K = 1 := by unfold KK at hK; omega
   rw [Q2w ho]
   have hC : KK 0 1 := .inl ⟨rfl, rfl⟩
   obtain ⟨kd, tx, n, a, ks⟩ := t
   have htx : tx.length ≤ 1000000 := hM.text
   match ks, hks, hM, hms, hz, oper, sub, len, ho with
   | [], hks, hM, hms, hz, oper, sub, len, ho =>
    simp only [okc, Bool.or_eq_true] at ho
    rcases ho with ho | ho
    ·obtain ⟨m, hm, a', e⟩ := Q7t ho
     injection e with e1 e2 e3 e4 e5
     subst e1 e2 e3
     exact Qe4 [] m hm a q 0 d 1 w
    ·obtain ⟨tx', a', e⟩ := Qh1 ho
     injection e with e1 e2 e3 e4 e5
     subst e1 e3
     exact Qd3 tx 0 a q 0 d 1 w
   | [x], hks, hM, hms, hz, oper, sub, len, ho =>
    have hx : x ∈ (Syn.mk kd tx n a [x]).kids := List.mem_cons_self ..
    simp only [okc, Bool.or_eq_true, Bool.and_eq_true, decide_eq_true_eq, beq_iff_eq] at ho
    rcases ho with ⟨⟨⟨rfl, rfl⟩, rfl⟩, hxo⟩ | ⟨⟨⟨rfl, rfl⟩, hw⟩, hxo⟩
    ·have hl := Q42 hxo
     have hW : okW 0 x := .inr (.inl ⟨rfl, hxo⟩)
     have h := Qml [] 0 a q x d (par (decide (rlvl 0 x < 2)) (wrW 0 x)) (len x hx 0 hW _) w hks (fun q' d' W hb hk => oper x hx 0 1 hC hW 2 q' d' W hb hk)
     rw [Q2w hxo, dlt (show lvl 0 x < 2 ↔ rlvl 0 x < 2 by unfold Lv2 at hl; omega)] at h
     exact h
    ·have hl := Q42 hxo
     have hW : okW 0 x := .inr (.inl ⟨rfl, hxo⟩)
     have hw3 : Q2f tx = 3 := by unfold Q2f; rw [if_pos (by rcases hw with h | h; exact .inl h; exact .inr (.inl h))]
     have hk1 : Q2j 1 tx = 1 := by unfold Q2j; split <;> rfl
     refine Q4g tx 0 a q 1 d 1 _ w fun W hb => ?_
     have h := Q6f 1 tx 0 a q [x] d [par (decide (rlvl 0 x < 3)) (wrW 0 x)] W (hks.low hb) (Nat.zero_lt_one) (by simp) htx rfl (len x hx 0 hW _) (fun j hj q' d' W' hb' hk => by
      obtain rfl : j = 0 := by simp at hj; omega
      rw [hw3, hk1]
      exact oper x hx 0 1 hC hW 3 q' d' W' (hb.trans (hb'.mono hb.size)) hk)
     rw [Q2w hxo, dlt (show lvl 0 x < 4 ↔ rlvl 0 x < 3 by unfold Lv2 at hl; omega)] at h
     exact h
   | [x, y], hks, hM, hms, hz, oper, sub, len, ho =>
    have hx : x ∈ (Syn.mk kd tx n a [x, y]).kids := List.mem_cons_self ..
    have hy : y ∈ (Syn.mk kd tx n a [x, y]).kids := List.mem_cons_of_mem _ (List.mem_cons_self ..)
    simp only [okc, Bool.or_eq_true, Bool.and_eq_true, decide_eq_true_eq, beq_iff_eq] at ho
    rcases ho with (⟨⟨⟨⟨rfl, hw⟩, rfl⟩, hxo⟩, hyo⟩ | ⟨⟨⟨⟨rfl, rfl⟩, rfl⟩, hxo⟩, hyo⟩) | ⟨⟨⟨⟨rfl, rfl⟩, hw⟩, hxo⟩, hyo⟩
    ·have hW : okW 0 y := .inr (.inl ⟨rfl, hyo⟩)
     have hyl := len y hy 0 hW false
     have hvt : x.text.length ≤ 1000000 := (hM.kid x hx).text
     by_cases hcn : tx = Qe
     ·have h := Qmr tx hcn 0 a q x y d (wrW 0 y) hyl hvt htx w hks (fun q' d' W hb hk => sub y hy 0 1 hC hW q' d' W hb hk)
      rw [Q2w hyo] at h
      rw [wrc, if_pos rfl, if_pos hcn]
      exact h
     ·have h := Qri tx hcn 0 a q x y d (wrW 0 y) hyl hvt htx w hks (fun q' d' W hb hk => sub y hy 0 1 hC hW q' d' W hb hk)
      rw [Q2w hyo] at h
      rw [wrc, if_pos rfl, if_neg hcn]
      exact h
    ·have hWx : okW 0 x := .inr (.inl ⟨rfl, hxo⟩)
     have hWy : okW 0 y := .inr (.inl ⟨rfl, hyo⟩)
     have hlx := Q42 hxo
     have hly := Q42 hyo
     have hw3 : Q2f Q0g = 3 := rfl
     have hk1 : Q2j 1 Q0g = 1 := rfl
     refine Q4g Q0g 0 a q 2 d 1 _ w fun W hb => ?_
     have h := Q6f 1 Q0g 0 a q [x, y] d [par (decide (rlvl 0 x < 3)) (wrW 0 x), par (decide (rlvl 0 y < 3)) (wrW 0 y)] W (hks.low hb) (by simp) (by simp) htx rfl (by
      have e1 := Q6u hWx; have e2 := Q6u hWy
      have e3 := Q2o (decide (rlvl 0 x < 3)) (wrW 0 x); have e4 := Q2o (decide (rlvl 0 y < 3)) (wrW 0 y)
      have e5 := Q5n (k := 10) (tx := Q0g) (n := 0) (a := a) (ks := [x, y]) hx; have e6 := Q5n (k := 10) (tx := Q0g) (n := 0) (a := a) (ks := [x, y]) hy
      simp only [commas, List.length_append, List.length_cons]; omega) (fun j hj q' d' W' hb' hk => by
      rw [hw3, hk1]
      match j, hj with
      | 0, _ => exact oper x hx 0 1 hC hWx 3 q' d' W' (hb.trans (hb'.mono hb.size)) hk
      | 1, _ => exact oper y hy 0 1 hC hWy 3 q' d' W' (hb.trans (hb'.mono hb.size)) hk)
     rw [Q2w hxo, Q2w hyo, dlt (show lvl 0 x < 4 ↔ rlvl 0 x < 3 by unfold Lv2 at hlx; omega), dlt (show lvl 0 y < 4 ↔ rlvl 0 y < 3 by unfold Lv2 at hly; omega)] at h
     rw [wrc, if_neg (by decide), if_pos rfl]
     simp only [commas, List.append_assoc, List.cons_append] at h
     exact h
    ·have hop : cOps.contains tx = true := by rw [← Q84]; exact hw
     have hth : tx ≠ Qb := fun e => by rw [e] at hop; revert hop; decide
     have hWx : okW 0 x := .inr (.inl ⟨rfl, hxo⟩)
     have hWy : okW 0 y := .inr (.inl ⟨rfl, hyo⟩)
     have hlx := (Qcy (Q42 hxo) hop).1
     have hly := (Qcy (Q42 hyo) hop).2
     have h := Qqk tx hth 0 a q x y d (par (decide (rlvl 0 x < rlft 0 tx)) (wrW 0 x)) (par (decide (rlvl 0 y < rrgt 0 tx)) (wrW 0 y)) (len x hx 0 hWx _) (len y hy 0 hWy _) htx w hks hxo
      (fun q' d' W hb hk => oper x hx 0 1 hC hWx _ q' d' W hb hk) (fun q' d' W hb hk => oper y hy 0 1 hC hWy _ q' d' W hb hk)
     rw [Q2w hxo, Q2w hyo, dlt hlx, dlt hly] at h
     rw [wrc, if_neg (by decide), if_neg (by decide)]
     have e1 : (Q1n tx x || decide (lvl 0 x < lft 0 tx)) = (Q1n tx x || decide (lvl 0 x < lft 0 tx)) := rfl
     have hb3 : decide (rlft 0 tx ≤ rlvl 0 x) = !decide (lvl 0 x < lft 0 tx) := by
      by_cases hc : lvl 0 x < lft 0 tx
      ·rw [decide_eq_true hc, decide_eq_false (by have := hlx.1 hc; omega)]; rfl
      ·rw [decide_eq_false hc, decide_eq_true (by have := fun h' => hc (hlx.2 h'); omega)]; rfl
     have e2 : ((tx == kOr || tx == kAnd) && decide (rlft 0 tx ≤ rlvl 0 x) && opn x) = (Q1n tx x && decide (rlft 0 tx ≤ rlvl 0 x)) := by
      unfold Q1n; rw [Bool.and_assoc, Bool.and_assoc, Bool.and_comm (decide _)]
     rw [e2, Qjq _ _ _ _ hb3] at h
     exact h
   | x :: y :: v :: r, hks, hM, hms, hz, oper, sub, len, ho => simp [okc] at ho
  ·obtain rfl : K = 2 := by unfold KK at hK; omega
   rw [Q58 ho]
   have hC : KK 1 2 := .inr (.inl ⟨rfl, rfl⟩)
   have hC0 : KK 0 1 := .inl ⟨rfl, rfl⟩
   obtain ⟨kd, tx, n, a, ks⟩ := t
   have htx : tx.length ≤ 1000000 := hM.text
   match ks, hks, hM, hms, hz, oper, sub, len, ho with
   | [], hks, hM, hms, hz, oper, sub, len, ho =>
    simp only [oks, Bool.or_eq_true, Bool.and_eq_true, decide_eq_true_eq, beq_iff_eq] at ho
    rcases ho with ho | ⟨⟨rfl, rfl⟩, rfl⟩
    ·obtain ⟨tx', a', e⟩ := Qh1 ho
     injection e with e1 e2 e3 e4 e5
     subst e1 e3
     exact Qd3 tx 0 a q 0 d 2 w
    ·exact Q4g Q1s 0 a q 0 d 2 _ w fun W hb => Qfh 2 Q1s 0 a q d W
   | [x], hks, hM, hms, hz, oper, sub, len, ho =>
    have hx : x ∈ (Syn.mk kd tx n a [x]).kids := List.mem_cons_self ..
    simp only [oks, Bool.or_eq_true, Bool.and_eq_true, decide_eq_true_eq, beq_iff_eq] at ho
    obtain ⟨⟨rfl, rfl⟩, ⟨rfl, hxo⟩ | ⟨hw, hxo⟩⟩ := ho
    ·have hW : okW 0 x := .inr (.inl ⟨rfl, hxo⟩)
     refine Q4g Q19 0 a q 1 d 2 _ w fun W hb => ?_
     have h := Q6f 2 Q19 0 a q [x] d [par (decide (rlvl 0 x < 0)) (wrW 0 x)] W (hks.low hb) (Nat.zero_lt_one) (by simp) htx rfl (len x hx 0 hW _) (fun j hj q' d' W' hb' hk => by
      obtain rfl : j = 0 := by simp at hj; omega
      exact oper x hx 0 1 hC0 hW 0 q' d' W' (hb.trans (hb'.mono hb.size)) hk)
     rw [Q2w hxo] at h
     exact h
    ·have hW : okW 1 x := .inl hxo
     have hmem := List.contains_iff_mem.1 hw
     have hw3 : Q2f tx = 0 ∧ Q2j 2 tx = 2 := by
      simp only [List.mem_cons, List.not_mem_nil, or_false] at hmem
      rcases hmem with e | e | e | e | e <;> rw [e] <;> exact ⟨rfl, rfl⟩
     refine Q4g tx 0 a q 1 d 2 _ w fun W hb => ?_
     have h := Q6f 2 tx 0 a q [x] d [par (decide (rlvl 1 x < 0)) (wrW 1 x)] W (hks.low hb) (Nat.zero_lt_one) (by simp) htx rfl (len x hx 1 hW _) (fun j hj q' d' W' hb' hk => by
      obtain rfl : j = 0 := by simp at hj; omega
      rw [hw3.1, hw3.2]
      exact oper x hx 1 2 hC hW 0 q' d' W' (hb.trans (hb'.mono hb.size)) hk)
     rw [Qff hxo, ← Qac hxo] at h
     exact h
   | [x, y], hks, hM, hms, hz, oper, sub, len, ho =>
    have hx : x ∈ (Syn.mk kd tx n a [x, y]).kids := List.mem_cons_self ..
    have hy : y ∈ (Syn.mk kd tx n a [x, y]).kids := List.mem_cons_of_mem _ (List.mem_cons_self ..)
    simp only [oks, Bool.and_eq_true, decide_eq_true_eq] at ho
    obtain ⟨⟨⟨⟨rfl, hw⟩, hn⟩, hxo⟩, hyo⟩ := ho
    have hop : sOps.contains tx = true := by rw [← Qbw]; exact hw
    have hWx : okW 1 x := .inr (.inr (.inl ⟨rfl, hxo⟩))
    have hWy : okW 1 y := .inr (.inr (.inl ⟨rfl, hyo⟩))
    have hlx := (Qf6 hop (Qdh hxo)).1
    have hly := (Qf6 hop (Qdh hyo)).2
    by_cases hth : tx = Qb
    ·rw [if_pos hth] at hn
     unfold natB at hn
     simp only [Bool.and_eq_true, decide_eq_true_eq] at hn
     obtain ⟨m, rfl⟩ : ∃ m : Nat, n = (m : Int) := ⟨n.toNat, by omega⟩
     have h := Qng tx hth m a q x y d (par (decide (rlvl 1 x < rlft 1 tx)) (wrW 1 x)) (par (decide (rlvl 1 y < rrgt 1 tx)) (wrW 1 y)) (len x hx 1 hWx _) (len y hy 1 hWy _) htx (by omega) w hks
      (fun q' d' W hb hk => oper x hx 1 2 hC hWx _ q' d' W hb hk) (fun q' d' W hb hk => oper y hy 1 2 hC hWy _ q' d' W hb hk)
     rw [Q58 hxo, Q58 hyo, dlt hlx, dlt hly] at h
     rw [wrs, if_pos hth]
     simp only [List.append_assoc, List.cons_append, List.nil_append] at h ⊢
     exact h
    ·rw [if_neg hth, decide_eq_true_eq] at hn
     subst hn
     have h := Qpe tx hth 0 a q x y d (par (decide (rlvl 1 x < rlft 1 tx)) (wrW 1 x)) (par (decide (rlvl 1 y < rrgt 1 tx)) (wrW 1 y)) (len x hx 1 hWx _) (len y hy 1 hWy _) htx w hks
      (fun q' d' W hb hk => oper x hx 1 2 hC hWx _ q' d' W hb hk) (fun q' d' W hb hk => oper y hy 1 2 hC hWy _ q' d' W hb hk)
     rw [Q58 hxo, Q58 hyo, dlt hlx, dlt hly] at h
     rw [wrs, if_neg hth]
     exact h
   | x :: y :: v :: r, hks, hM, hms, hz, oper, sub, len, ho => simp [oks] at ho
  ·obtain rfl : K = 3 := by unfold KK at hK; omega
   have hC : KK 2 3 := .inr (.inr ⟨rfl, rfl⟩)
   rcases ho with ho | ho
   case inr =>
    rw [Q52 (.inr ho)]
    obtain ⟨kd, tx, n, a, ks⟩ := t
    obtain rfl : kd = 14 := Qew ho
    exact Qrg tx n a q ks.length d 3 _ w fun W hb => Qlz 14 tx n a q ks d W (hks.low hb) ho (by omega) hM.len
   rw [Q3n ho]
   obtain ⟨kd, tx, n, a, ks⟩ := t
   have htx : tx.length ≤ 1000000 := hM.text
   match ks, hks, hM, hms, hz, oper, sub, len, ho with
   | [], hks, hM, hms, hz, oper, sub, len, ho =>
    simp only [okf, Bool.and_eq_true, decide_eq_true_eq, beq_iff_eq] at ho
    obtain ⟨⟨rfl, rfl⟩, rfl⟩ := ho
    exact Q4g Q1g 0 a q 0 d 3 _ w fun W hb => Qfh 3 Q1g 0 a q d W
   | [x], hks, hM, hms, hz, oper, sub, len, ho =>
    have hx : x ∈ (Syn.mk kd tx n a [x]).kids := List.mem_cons_self ..
    have one : ∀ (s : List UInt8), kd = 10 → n = 0 → okW 2 x → Q2f tx = 0 ∧ Q2j 3 tx = 3 → wrW 2 x = s → Calls Tryz.prog 63 #[Q3 (.mk kd tx n a [x]) q d, .int .i64 3] w (Qh w (tx ++ 40 :: (s ++ [41]))) := by
     intro s h10 h0 hW hw3 hs
     subst h10 h0 hs
     refine Q4g tx 0 a q 1 d 3 _ w fun W hb => ?_
     exact Q6f 3 tx 0 a q [x] d [par (decide (rlvl 2 x < 0)) (wrW 2 x)] W (hks.low hb) (Nat.zero_lt_one) (by simp) htx rfl (len x hx 2 hW _) (fun j hj q' d' W' hb' hk => by
      obtain rfl : j = 0 := by simp at hj; omega
      rw [hw3.1, hw3.2]
      exact oper x hx 2 3 hC hW 0 q' d' W' (hb.trans (hb'.mono hb.size)) hk)
    simp only [okf, Bool.or_eq_true, Bool.and_eq_true, decide_eq_true_eq, beq_iff_eq] at ho
    rcases ho with ⟨⟨⟨rfl, rfl⟩, rfl⟩, hxo⟩ | ⟨⟨rfl, rfl⟩, ⟨hw, hxo⟩ | ⟨hw, hxo⟩⟩
    ·have hl := Qae hxo
     have hW : okW 2 x := .inr (.inr (.inr ⟨rfl, .inl hxo⟩))
     have h := Qif [] 0 a q x d (par (decide (rlvl 2 x < 3)) (wrW 2 x)) (len x hx 2 hW _) w hks (fun q' d' W hb hk => oper x hx 2 3 hC hW 3 q' d' W hb hk)
     rw [Q3n hxo, dlt (show lvl 2 x < 3 ↔ rlvl 2 x < 3 by unfold Lv3 at hl; omega)] at h
     exact h
    ·have hmem := List.contains_iff_mem.1 hw
     have hw3 : Q2f tx = 0 ∧ Q2j 3 tx = 3 := by
      simp only [List.mem_cons, List.not_mem_nil, or_false] at hmem
      rcases hmem with e | e | e <;> rw [e] <;> exact ⟨rfl, rfl⟩
     rw [wrf, if_neg (by decide), if_pos hw]
     exact one _ rfl rfl (.inl hxo) hw3 (Q52 (.inl hxo))
    ·have hmem := List.contains_iff_mem.1 hw
     have hw3 : (Q2f tx = 0 ∧ Q2j 3 tx = 3) ∧ ¬ fone.contains tx = true := by
      simp only [List.mem_cons, List.not_mem_nil, or_false] at hmem
      rcases hmem with e | e | e <;> rw [e] <;> exact ⟨⟨rfl, rfl⟩, by decide⟩
     rw [wrf, if_neg (by decide), if_neg hw3.2]
     exact one _ rfl rfl (.inr (.inr (.inr ⟨rfl, .inl hxo⟩))) hw3.1 (Q3n hxo)
   | [x, y], hks, hM, hms, hz, oper, sub, len, ho =>
    have hx : x ∈ (Syn.mk kd tx n a [x, y]).kids := List.mem_cons_self ..
    have hy : y ∈ (Syn.mk kd tx n a [x, y]).kids := List.mem_cons_of_mem _ (List.mem_cons_self ..)
    have two : ∀ (s s' : List UInt8), kd = 10 → n = 0 → okW 2 x → okW 2 y → Q2f tx = 0 ∧ Q2j 3 tx = 3 → wrW 2 x = s → wrW 2 y = s' → Calls Tryz.prog 63 #[Q3 (.mk kd tx n a [x, y]) q d, .int .i64 3] w (Qh w (tx ++ 40 :: (s ++ 44 :: 32 :: (s' ++ [41])))) := by
     intro s s' h10 h0 hWx hWy hw3 hs hs'
     have e1 := Q6u hWx; have e2 := Q6u hWy
     have e5 := Q5n (k := kd) (tx := tx) (n := n) (a := a) (ks := [x, y]) hx; have e6 := Q5n (k := kd) (tx := tx) (n := n) (a := a) (ks := [x, y]) hy
     have e7 : (commas [wrW 2 x, wrW 2 y]).length ≤ 10000000 := by simp only [commas, List.length_append, List.length_cons]; omega
     clear e1 e2 e5 e6
     subst h10 h0 hs hs'
     refine Q4g tx 0 a q 2 d 3 _ w fun W hb => ?_
     have h := Q6f 3 tx 0 a q [x, y] d [wrW 2 x, wrW 2 y] W (hks.low hb) (by simp) (by simp) htx rfl e7 (fun j hj q' d' W' hb' hk => by
      rw [hw3.1, hw3.2]
      match j, hj with
      | 0, _ => exact oper x hx 2 3 hC hWx 0 q' d' W' (hb.trans (hb'.mono hb.size)) hk
      | 1, _ => exact oper y hy 2 3 hC hWy 0 q' d' W' (hb.trans (hb'.mono hb.size)) hk)
     simp only [commas, List.append_assoc, List.cons_append] at h
     exact h
    simp only [okf, Bool.or_eq_true, Bool.and_eq_true, decide_eq_true_eq, beq_iff_eq] at ho
    rcases ho with ⟨⟨rfl, rfl⟩, (⟨⟨hw, hxo⟩, hyo⟩ | ⟨⟨rfl, hxo⟩, hyo⟩) | ⟨⟨hw, hxo⟩, hyo⟩⟩ | ⟨⟨⟨⟨rfl, rfl⟩, hw⟩, hxo⟩, hyo⟩
    ·have hmem := List.contains_iff_mem.1 hw
     have hw3 : Q2f tx = 0 ∧ Q2j 3 tx = 3 := by
      simp only [List.mem_cons, List.not_mem_nil, or_false] at hmem
      rcases hmem with e | e | e <;> rw [e] <;> exact ⟨rfl, rfl⟩
     rw [wrf, if_pos rfl, if_pos hw]
     exact two _ _ rfl rfl (.inl hxo) (.inl hyo) hw3 (Q52 (.inl hxo)) (Q52 (.inl hyo))
    ·rw [wrf, if_pos rfl, if_neg (by decide)]
     exact two _ _ rfl rfl (.inl hxo) (.inr (.inr (.inr ⟨rfl, .inl hyo⟩))) ⟨rfl, rfl⟩ (Q52 (.inl hxo)) (Q3n hyo)
    ·have hmem := List.contains_iff_mem.1 hw
     have hw3 : (Q2f tx = 0 ∧ Q2j 3 tx = 3) ∧ ¬ ftwo.contains tx = true := by
      simp only [List.mem_cons, List.not_mem_nil, or_false] at hmem
      rcases hmem with e | e | e <;> rw [e] <;> exact ⟨⟨rfl, rfl⟩, by decide⟩
     rw [wrf, if_pos rfl, if_neg hw3.2]
     exact two _ _ rfl rfl (.inr (.inr (.inr ⟨rfl, .inr hxo⟩))) (.inr (.inr (.inr ⟨rfl, .inl hyo⟩))) hw3.1 (Q52 (.inr hxo)) (Q3n hyo)
    ·have hop : fOps.contains tx = true := by rw [← Qay]; exact hw
     have hth : tx ≠ Qb := fun e => by rw [e] at hop; revert hop; decide
     have hWx : okW 2 x := .inr (.inr (.inr ⟨rfl, .inl hxo⟩))
     have hWy : okW 2 y := .inr (.inr (.inr ⟨rfl, .inl hyo⟩))
     have hlx := (Qi0 hop (Qae hxo)).1
     have hly := (Qi0 hop (Qae hyo)).2
     have h := Qnz tx hth 0 a q x y d (par (decide (rlvl 2 x < rlft 2 tx)) (wrW 2 x)) (par (decide (rlvl 2 y < rrgt 2 tx)) (wrW 2 y)) (len x hx 2 hWx _) (len y hy 2 hWy _) htx w hks
      (fun q' d' W hb hk => oper x hx 2 3 hC hWx _ q' d' W hb hk) (fun q' d' W hb hk => oper y hy 2 3 hC hWy _ q' d' W hb hk)
     rw [Q3n hxo, Q3n hyo, dlt hlx, dlt hly] at h
     rw [wrf, if_neg (by decide)]
     exact h
   | x :: y :: v :: r, hks, hM, hms, hz, oper, sub, len, ho => simp [okf] at ho
theorem Qn5 (t : Syn) (hM : Mod t) (p : Option Addr) (c : Nat) (w : World) (hks : KidR w t.kids (.slice p t.kids.length c)) : Calls Tryz.prog 60 #[Q3 t p c, .int .i64 1] w (Q6 w (okc t)) := by
 have hcall := fun W (hb : Below w.heap.size w W) => Qdo _ t (Nat.lt_succ_self _) hM p c W (hks.low hb)
 generalize okc t = v at *
 obtain ⟨k, tx, n, a, ks⟩ := t
 replace hcall : ∀ W, Below w.heap.size w W → Calls Tryz.prog 111 #[(Value.agg #[.int .i64 k, .string ⟨List.toArray tx⟩, .int .i64 n, .int .i64 a, .slice p ks.length c])] W (Q6 W v) := hcall
 replace hcall := qh hcall
 show Calls Tryz.prog 60 #[(Value.agg #[.int .i64 k, .string ⟨List.toArray tx⟩, .int .i64 n, .int .i64 a, .slice p ks.length c]), .int .i64 1] w _
 clear hks hM
 generalize ks.length = m at *
 have hq := boxK w k tx n a p m c rfl
 go_enter Tryz.func60, Tryz.ntmps60
 go_upto_region 1 with (fail)
 generalize World.alloc w _ = w1 at hq ⊢
 obtain ⟨hB, hF, bR, c0, c1, c2, c3, c4⟩ := hq
 go_wp2_with (go_at_call 111; (with_reducible refine (hcall.out _ hB.out).mono ?_); rintro e w2 ⟨rfl, b2⟩; replace bR := qh (bR.out.trans (b2.mono bR.out.size)))
 all_goals
  go_ret
  exact ⟨rfl, hB.out.trans (bR.out.mono hB.out.size)⟩
theorem Qi6 (t : Syn) (hM : Mod t) (p : Option Addr) (c : Nat) (w : World) (hks : KidR w t.kids (.slice p t.kids.length c)) : Calls Tryz.prog 60 #[Q3 t p c, .int .i64 2] w (Q6 w (oks t)) := by
 have hcall := fun W (hb : Below w.heap.size w W) => Qky _ t (Nat.lt_succ_self _) hM p c W (hks.low hb)
 generalize oks t = v at *
 obtain ⟨k, tx, n, a, ks⟩ := t
 replace hcall : ∀ W, Below w.heap.size w W → Calls Tryz.prog 112 #[(Value.agg #[.int .i64 k, .string ⟨List.toArray tx⟩, .int .i64 n, .int .i64 a, .slice p ks.length c])] W (Q6 W v) := hcall
 replace hcall := qh hcall
 show Calls Tryz.prog 60 #[(Value.agg #[.int .i64 k, .string ⟨List.toArray tx⟩, .int .i64 n, .int .i64 a, .slice p ks.length c]), .int .i64 2] w _
 clear hks hM
 generalize ks.length = m at *
 have hq := boxK w k tx n a p m c rfl
 go_enter Tryz.func60, Tryz.ntmps60
 go_upto_region 1 with (fail)
 generalize World.alloc w _ = w1 at hq ⊢
 obtain ⟨hB, hF, bR, c0, c1, c2, c3, c4⟩ := hq
 go_wp2_with (go_at_call 112; (with_reducible refine (hcall.out _ hB.out).mono ?_); rintro e w2 ⟨rfl, b2⟩; replace bR := qh (bR.out.trans (b2.mono bR.out.size)))
 all_goals
  go_ret
  exact ⟨rfl, hB.out.trans (bR.out.mono hB.out.size)⟩
theorem Qlh (t : Syn) (hM : Mod t) (p : Option Addr) (c : Nat) (w : World) (hks : KidR w t.kids (.slice p t.kids.length c)) : Calls Tryz.prog 60 #[Q3 t p c, .int .i64 3] w (Q6 w (okf t)) := by
 have hcall := fun W (hb : Below w.heap.size w W) => Qoa _ t (Nat.lt_succ_self _) hM p c W (hks.low hb)
 generalize okf t = v at *
 obtain ⟨k, tx, n, a, ks⟩ := t
 replace hcall : ∀ W, Below w.heap.size w W → Calls Tryz.prog 113 #[(Value.agg #[.int .i64 k, .string ⟨List.toArray tx⟩, .int .i64 n, .int .i64 a, .slice p ks.length c])] W (Q6 W v) := hcall
 replace hcall := qh hcall
 show Calls Tryz.prog 60 #[(Value.agg #[.int .i64 k, .string ⟨List.toArray tx⟩, .int .i64 n, .int .i64 a, .slice p ks.length c]), .int .i64 3] w _
 clear hks hM
 generalize ks.length = m at *
 have hq := boxK w k tx n a p m c rfl
 go_enter Tryz.func60, Tryz.ntmps60
 go_upto_region 1 with (fail)
 generalize World.alloc w _ = w1 at hq ⊢
 obtain ⟨hB, hF, bR, c0, c1, c2, c3, c4⟩ := hq
 go_wp2_with (go_at_call 113; (with_reducible refine (hcall.out _ hB.out).mono ?_); rintro e w2 ⟨rfl, b2⟩; replace bR := qh (bR.out.trans (b2.mono bR.out.size)))
 all_goals
  go_ret
  exact ⟨rfl, hB.out.trans (bR.out.mono hB.out.size)⟩
theorem Qcr (s : List UInt8) (K : Int) (d x : Nat) (w : World) (hs : s.length ≤ 1000000) (hx : x ≠ 0) (hT : scan s = .error (d, x)) :
  Calls Tryz.prog 25 #[.string ⟨s.toArray⟩, .int .i64 K] w (PRes w (.err d x)) := by
 have hB1 : Below w.heap.size w (w.alloc (.cells z5.toArray 24)) := (Below.refl _ _).alloc (Nat.le_refl _) _
 have hsc := Qgv s (w.alloc (.cells z5.toArray 24)) hs
 rw [hT] at hsc
 have hbe : ((x : Int) != 0) = true := by rw [bne_iff_ne]; omega
 replace hsc := qh hsc
 clear hT
 go_enter Tryz.func25, Tryz.ntmps25
 go_wp2_with fail
 (with_reducible refine (hsc.out).mono ?_); rintro e w2 ⟨b2, h2⟩
 subst h2
 have hz1 : (w.alloc (.cells z5.toArray 24)).heap.size = w.heap.size + 1 := by simp only [World.size_alloc]
 rw [hz1] at b2
 have hR2 : w2.heap[w.heap.size]? = some (.cells z5.toArray 24 (0, 0)) := (b2.block _ (by omega)).trans (heap_alloc_new _ _)
 have hB2 : Below w.heap.size w w2 := hB1.trans (b2.mono (by omega))
 have hsb : Qi w2 w.heap.size := ⟨_, _, _, _, _, _, hR2⟩
 have hh := Q2p w2 w.heap.size (.int .i64 0) (.string ⟨#[]⟩) (.int .i64 0) (.int .i64 0) (.slice none 0 0) _ _ _ _ _ _ hR2
 obtain ⟨⟨q0, q1, q2, q3, q4⟩, _⟩ := own5 hh
 have hfin : PRes w (.err d x) (.returned (.tuple #[.agg #[.int .i64 0, .string ⟨#[]⟩, .int .i64 0, .int .i64 0, .slice none 0 0], .int .i64 d, .int .i64 (x : Nat)])) (setSyn w2 w.heap.size (.int .i64 0) (.string ⟨#[]⟩) (.int .i64 0) (.int .i64 0) (.slice none 0 0)) :=
  ⟨Q5b hB2 _ _ _ _ _, rfl⟩
 replace hfin := qh hfin
 clear hh hR2 hB2 b2 hz1 hsc
 go_wp2_with fail
 exact bodyPost_ret (v := .tuple #[.agg #[.int .i64 0, .string ⟨#[]⟩, .int .i64 0, .int .i64 0, .slice none 0 0], .int .i64 d, .int .i64 (x : Nat)]) (by simp [results, Tryz.results25, go_sem, q0, q1, q2, q3, q4]) rfl hfin.out
end Go.Proofs.YtplbfmcgddnkeaaGreatDoor
namespace Go.Proofs.YtplbfmcgddnkeaaGreatDoor
section
def Q5p (x : Syn) (o : Out Syn) : Prop := match o with | .ok y _ => Twin Any x y | .err _ e => e = 12 | .none => False
section
variable {s : List UInt8} {x : Syn} {j : Nat}
end
end
section
theorem lx_c {t : Syn} (h : okc t = true) : Lx (wrc t) (ktc t ++ [Q2e]) := by simpa using Q56 t h [] _ Qbf Qav
theorem lx_s {t : Syn} (h : oks t = true) : Lx (wrs t) (ktS t ++ [Q2e]) := by simpa using Qc4 t h [] _ Qbf Qav
theorem lx_f {t : Syn} (h : okf t = true) : Lx (wrf t) (ktf t ++ [Q2e]) := by simpa using Q4z t h [] _ Qbf Qav
section
variable {U : List Tok} {f lv i j L : Nat} {x y a b : Syn} {A B K : List KT} {c : KT} {t : List UInt8}
def DL (xs : List Syn) (L : Nat) (o : Out (List Syn)) : Prop := match o with | .ok ys l => l = L ∧ TwinL Any xs ys | .err _ e => e = 12 | .none => True
theorem DL.bind {xs : List Syn} {z : Syn} {M : Nat} {o : Out (List Syn)} {g : List Syn → Nat → Out Syn} (h : DL xs L o) (hg : ∀ ys, TwinL Any xs ys → DN z M (g ys L)) : DN z M (o.bind g) := by
 cases o with
 | none => exact h
 | err p e => exact h
 | ok y l =>
  obtain ⟨rfl, h⟩ := h
  exact hg y h
end
theorem Q9x {x : Syn} {s : List UInt8} {K : List KT} {r : List Tok → Rd} (hs : s.length ≤ 65536) (hl : Lx s (K ++ [Q2e])) (hr : ∀ U, Tl U 0 (K ++ [Q2e]) → DN x K.length (r U 0 0)) (hn : Qa s r ≠ .none) : Q5p x (Qa s r) := by
 obtain ⟨U, hU, hK⟩ := Qsa hl hs
 have h0 : Tl U 0 (K ++ [Q2e]) := Qo3 hK
 have h1 := hr U h0
 have h2 : Qa s r = whole U (r U) := by unfold Qa; rw [hU]
 rw [h2] at hn ⊢
 have hk : (tk U K.length).kind = 3 := by
  have := Q07 h0
  rw [Nat.zero_add] at this
  exact Q3i this
 have h3 : DN x K.length (whole U (r U)) := by
  unfold whole
  refine h1.bind fun y hy => ?_
  rw [if_pos hk]
  exact Q0k hy
 cases hq : whole U (r U) with
 | none => exact absurd hq hn
 | err p e => rw [hq] at h3; exact h3
 | ok y l => rw [hq] at h3; exact h3.2
theorem Qc5 (s : List UInt8) (nt : NT) : Qa s (rdO nt) ≠ .none := Qll s _ fun T hT => Q54 hT nt 0 0 hT.pos
theorem Qd9 {t : Syn} (h : okc t = true) (hs : (wrc t).length ≤ 65536) : Q5p t (Qa (wrc t) (rdO .cond)) :=
 Q9x hs (lx_c h) (fun U h0 => by have := (Q68 (U := U) t h).1 0 (Q33 U) 0 0 _ _ (by unfold okM; omega) (Nat.zero_le _) h0 (by unfold Qu goC noOp; decide) (fun _ => by unfold Qu goC noOp; decide); rw [Nat.zero_add] at this; exact this) (Qc5 _ _)
theorem Qt6 {t : Syn} (h : oks t = true) (hs : (wrs t).length ≤ 65536) : Q5p t (Qa (wrs t) (rdO .scheme)) :=
 Q9x hs (lx_s h) (fun U h0 => by have := (Qbe (U := U) t h).1 0 (Q33 U) 0 0 _ _ (by omega) (Nat.zero_le _) h0 (by unfold Q1t goS noOp; decide); rw [Nat.zero_add] at this; exact this) (Qc5 _ _)
theorem Qm5 {t : Syn} (h : okf t = true) (hs : (wrf t).length ≤ 65536) : Q5p t (Qa (wrf t) (rdO .formula)) :=
 Q9x hs (lx_f h) (fun U h0 => by have := (Q5h (U := U) t h).1 0 (Q33 U) 0 0 _ _ (by omega) (Nat.zero_le _) h0 (by unfold Q1m goF noOp; decide); rw [Nat.zero_add] at this; exact this) (Qc5 _ _)
end
end Go.Proofs.YtplbfmcgddnkeaaGreatDoor
