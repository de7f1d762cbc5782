/- Walks of functions, and plain facts. -/
import Derived.Test.YtplbfmcgddnkeaaGreatDoorC18
set_option linter.unusedVariables false
set_option linter.unusedSimpArgs false
set_option maxHeartbeats 20000000
set_option maxRecDepth 100000
namespace Go.Proofs.YtplbfmcgddnkeaaGreatDoor
section
section
variable {U : List Tok}
theorem Qrd {f lv i : Nat} {w : List UInt8} {c : KT} {K : List KT} (h0 : Tl U i ((1, w) :: c :: K)) : rd Q0 U (f + 1) .unit lv i = .ok (.mk 9 [] (dv 0 w : Nat) (tk U i).pos []) (i + 1) := by
 rw [rd]
 dsimp only
 rw [if_pos (Q3i h0)]
 exact Q6p h0
theorem Qk4 {f lv i : Nat} {t : List UInt8} {c : KT} {K : List KT} (h0 : Tl U i ((0, t) :: c :: K)) (hn : Q1h t = true) : rd Q0 U (f + 1) .unit lv i = .ok (.mk 8 t 0 (tk U i).pos []) (i + 1) := by
 have hr := (Q4m hn).2
 rw [rd]
 dsimp only
 rw [if_neg (by rw [Q3i h0]; show ¬ (0 : Int) = 1; decide), if_neg (Q5r h0 hr), if_neg (Q5r h0 hr), if_neg (Q5r h0 hr), if_neg (Qdf h0 (Qh2 hn).1)]
 exact Q8v h0 hr
theorem Qlm {f lv i : Nat} {t : List UInt8} {c : KT} {K : List KT} (h0 : Tl U i ((0, t) :: c :: K)) (ht : t = kIn ∨ t = kOut) : rd Q0 U (f + 1) .unit lv i = arguments U (tk U i) [rd Q0 U f .sum] lv (i + 1) := by
 rw [rd]
 dsimp only
 rw [if_neg (by rw [Q3i h0]; show ¬ (0 : Int) = 1; decide), if_pos (Q0i h0 (by rcases ht with rfl | rfl <;> decide)), Q0m h0]
theorem Qtq {f lv i : Nat} {c : KT} {K : List KT} (h0 : Tl U i ((0, Q0g) :: c :: K)) : rd Q0 U (f + 1) .unit lv i = arguments U (tk U i) [rd Q0 U f .sum, rd Q0 U f .sum] lv (i + 1) := by
 rw [rd]
 dsimp only
 rw [if_neg (by rw [Q3i h0]; show ¬ (0 : Int) = 1; decide), if_neg (Q03 h0 (by decide)), if_pos (Q0i h0 (by decide)), Q0m h0]
theorem Qsg {f lv i : Nat} {c : KT} {K : List KT} (h0 : Tl U i ((0, Qe) :: c :: K)) : rd Q0 U (f + 1) .unit lv i = (name Q0 U (i + 1)).bind fun v j => (parens U (rd Q0 U f .cond) lv j).bind fun x j => .ok (.mk 13 (tk U i).text 0 (tk U i).pos [v, x]) j := by
 rw [rd]
 dsimp only
 rw [if_neg (by rw [Q3i h0]; show ¬ (0 : Int) = 1; decide), if_neg (Q03 h0 (by decide)), if_neg (Q03 h0 (by decide)), if_pos (Q0i h0 (by decide)), Q0m h0]
theorem Qk6 {f lv i : Nat} {c : KT} {K : List KT} (h0 : Tl U i ((0, kNot) :: c :: K)) : rd Q0 U (f + 1) .neg lv i = notR U (rd Q0 U f .neg) lv i := by
 rw [rd]
 dsimp only
 rw [if_pos (Q0i h0 (by decide))]
theorem Qr4 {f lv i : Nat} {t : List UInt8} {c : KT} {K : List KT} (h0 : Tl U i ((0, t) :: c :: K)) (ht : t = kAll ∨ t = Q2c) : rd Q0 U (f + 1) .neg lv i =
  (name Q0 U (i + 1)).bind fun v j => (need U [58] j).bind fun _ j => (within U (rd Q0 U f .cond) lv j).bind fun x j => .ok (.mk 13 (tk U i).text 0 (tk U i).pos [v, x]) j := by
 rw [rd]
 dsimp only
 rw [if_neg (Q03 h0 (by rcases ht with rfl | rfl <;> decide)), if_pos (Q0i h0 (by rcases ht with rfl | rfl <;> decide)), Q0m h0]
theorem Q6w {t : Syn} (hl : lvl 0 t = 5) (hh : ∃ d A, ktc t = d :: A ∧ Q4n d) (h : ∀ f lv i c B, Tl U i (ktc t ++ c :: B) → DN t (i + (ktc t).length) (rd Q0 U (f + 1) .unit lv i)) : RdC U t ∧ SpC U t := by
 have h1 : RdC U t := fun m f lv i c B hm hle h0 hs ho => by
  obtain ⟨d, A, e, hd⟩ := hh
  refine upC (m := 5) (by unfold okM; omega) hm (by rcases hm with rfl | rfl | rfl | rfl | rfl <;> omega) (fun f lv => ?_) (fun _ => ⟨d, A ++ c :: B, by rw [e] at h0; exact h0, hd⟩) (Q07 h0) hs f lv
  cases f with
  | zero => trivial
  | succ f => exact h f lv i c B h0
 exact ⟨h1, Qhb h1 (.inr (.inr hl))⟩
theorem Qcg {t : Syn} (hl : lvl 0 t = 2 ∨ lvl 0 t = 3) (h : ∀ f lv i c B, Tl U i (ktc t ++ c :: B) → Qu 2 c → (opn t = true → Qu 0 c) → DN t (i + (ktc t).length) (rd Q0 U (f + 1) .neg lv i)) : RdC U t ∧ SpC U t := by
 have h1 : RdC U t := fun m f lv i c B hm hle h0 hs ho => by
  have hm2 : m ≤ 2 := by rcases hm with rfl | rfl | rfl | rfl | rfl <;> omega
  refine upC (m := 2) (by unfold okM; omega) hm hm2 (fun f lv => ?_) (fun h => absurd h (by omega)) (Q07 h0) hs f lv
  cases f with
  | zero => trivial
  | succ f => exact h f lv i c B h0 (hs.le hm (by simp) hm2) ho
 exact ⟨h1, Qhb h1 (by rcases hl with h | h <;> simp [h])⟩
theorem Q68 : ∀ t : Syn, okc t = true → RdC U t ∧ SpC U t
 | .mk k t n p [], h => by
  rcases Q8q h with ⟨hk, ht, h1, h2⟩ | ⟨hk, hn, h1⟩
  ·refine Q6w (by simp [lvl, Syn.kind, hk]) (Q4b _ h (by simp [lvl, Syn.kind, hk])) fun f lv i c B h0 => ?_
   rw [ktc, if_pos hk] at h0 ⊢
   rw [Qrd h0, Q7e, hk, ht, show ((n.toNat : Nat) : Int) = n by omega]
   exact Q0k (.mk trivial .nil)
  ·refine Q6w (by simp [lvl, Syn.kind, hk]) (Q4b _ h (by simp [lvl, Syn.kind, hk])) fun f lv i c B h0 => ?_
   rw [ktc, if_neg (by omega)] at h0 ⊢
   rw [Qk4 h0 h1, hk, hn]
   exact Q0k (.mk trivial .nil)
 | .mk k t n p [a], h => by
  obtain ⟨ha, h'⟩ := Q95 h
  have ia := (Q68 a ha).1
  rcases h' with ⟨hk, ht, hn⟩ | ⟨hk, hn, ht⟩
  ·refine Qcg (.inl (by simp [lvl, Syn.kind, hk])) fun f lv i c B h0 hs ho => ?_
   rw [ktc, if_pos hk] at h0 ⊢
   obtain ⟨d, K, hdK⟩ := Q3e (A := parK (decide (lvl 0 a < 2)) (ktc a)) (c := c) (B := B)
   have h0' := h0
   rw [List.cons_append, hdK] at h0'
   rw [Qk6 h0']
   unfold notR
   rw [Q0m h0', List.length_cons, ← Nat.add_assoc, Nat.add_right_comm]
   refine (Q66 (operC (b := decide (lvl 0 a < 2)) ia (by unfold okM; omega) (fun h => by simpa using h) (Qn h0) hs (fun h ho' => ho ?_) f (lv + 1))).bind fun y hy => ?_
   ·have : ¬ k = 13 := by omega
    rw [opn, if_neg this, ho']
    simp only [decide_eq_false_iff_not] at h
    simp [hk]; omega
   ·rw [hk, ht, hn]
    exact Q0k (.mk trivial (.cons hy .nil))
  ·refine Q6w (by simp [lvl, Syn.kind, hk]) (Q4b _ h (by simp [lvl, Syn.kind, hk])) fun f lv i c B h0 => ?_
   rw [ktc, if_neg (by omega)] at h0 ⊢
   have h0' : Tl U i ((0, t) :: (2, [40]) :: (parK (decide (lvl 0 a < 4)) (ktc a) ++ (2, [41]) :: c :: B)) := by simpa using h0
   have h1 := Qn h0'
   have h2 := Qn h1
   rw [Qlm h0' ht, hk]
   have e : i + ((0, t) :: (2, [40]) :: (parK (decide (lvl 0 a < 4)) (ktc a) ++ [(2, [41])])).length = i + 1 + 1 + (parK (decide (lvl 0 a < 4)) (ktc a)).length + 1 := by simp only [List.length_cons, List.length_append, List.length_nil]; omega
   rw [e]
   exact Q7s (by rw [Q20 h0']) hn h1 (Q2i h2) (operC (m := 4) ia (by unfold okM; omega) (fun h => by simpa using h) h2 Q3h (fun _ _ => Q3h) f (lv + 1)) (Q07 h2)
 | .mk k t n p [a, b], h => by
  obtain ⟨hb, hn, h'⟩ := Q8g h
  have ib := Q68 b hb
  rcases h' with ⟨hk, ht, ha⟩ | ⟨hk, ht, ha⟩ | ⟨hk, ht, ha⟩
  ·obtain ⟨a1, a2, a3, a4⟩ := Q47 ha
   have ea : ∀ q, Twin Any a (.mk 8 a.text 0 q []) := fun q => by
    cases a
    simp only [Syn.kind, Syn.num, Syn.kids, Syn.text] at a1 a2 a3 ⊢
    subst a1 a2 a3
    exact .mk trivial .nil
   by_cases hc : t = Qe
   ·refine Q6w (by simp [lvl, Syn.kind, Syn.text, hk, hc]) (Q4b _ h (by simp [lvl, Syn.kind, Syn.text, hk, hc])) fun f lv i c B h0 => ?_
    rw [ktc, if_pos hk, if_pos hc] at h0 ⊢
    have h0' : Tl U i ((0, t) :: (0, a.text) :: (2, [40]) :: (ktc b ++ (2, [41]) :: c :: B)) := by simpa [parK] using h0
    have h1 := Qn h0'
    have h2 := Qn h1
    have h3 := Qn h2
    rw [Qsg (hc ▸ h0'), Q8v h1 (Q4m a4).2, Q15]
    have e : i + ((0, t) :: (0, a.text) :: parK true (ktc b)).length = i + 1 + 1 + 1 + (ktc b).length + 1 := by simp only [parK, List.length_cons, List.length_append, List.length_nil, if_true]; omega
    rw [e]
    refine (Q8b h2 (Q2i h3) (ib.1 0 f (lv + 1) _ _ _ (by unfold okM; omega) (Nat.zero_le _) h3 Q3h (fun _ => Q3h)) (Q07 h3)).bind fun y hy => ?_
    rw [Q20 h0', hk, hn]
    exact Q0k (.mk trivial (.cons (ea _) (.cons hy .nil)))
   ·have ht' : t = kAll ∨ t = Q2c := by rcases ht with h | h | h <;> first | exact .inl h | exact .inr h | exact absurd h hc
    refine Qcg (.inl (by simp [lvl, Syn.kind, Syn.text, hk, hc])) fun f lv i c B h0 hs ho => ?_
    have hop : opn (.mk k t n p [a, b]) = true := by rw [opn, if_pos hk]; simpa using hc
    rw [ktc, if_pos hk, if_neg hc] at h0 ⊢
    have h0' : Tl U i ((0, t) :: (0, a.text) :: (2, [58]) :: (ktc b ++ c :: B)) := by simpa using h0
    have h1 := Qn h0'
    have h2 := Qn h1
    have h3 := Qn h2
    rw [Qr4 h0' ht', Q8v h1 (Q4m a4).2, Q15, Q7u h2 (.inl rfl) (Q2i h3), Q15]
    have e : i + ((0, t) :: (0, a.text) :: (2, [58]) :: ktc b).length = i + 1 + 1 + 1 + (ktc b).length := by simp only [List.length_cons]; omega
    rw [e]
    refine (Q66 (ib.1 0 f (lv + 1) _ _ _ (by unfold okM; omega) (Nat.zero_le _) h3 (ho hop) (fun _ => ho hop))).bind fun y hy => ?_
    rw [Q20 h0', hk, hn]
    exact Q0k (.mk trivial (.cons (ea _) (.cons hy .nil)))
  ·have ia := Q68 a ha
   refine Q6w (by simp [lvl, Syn.kind, hk]) (Q4b _ h (by simp [lvl, Syn.kind, hk])) fun f lv i c B h0 => ?_
   rw [ktc, if_neg (by omega), if_pos hk] at h0 ⊢
   have h0' : Tl U i ((0, t) :: (2, [40]) :: (parK (decide (lvl 0 a < 4)) (ktc a) ++ (2, [44]) :: (parK (decide (lvl 0 b < 4)) (ktc b) ++ (2, [41]) :: c :: B))) := by simpa using h0
   have h1 := Qn h0'
   have h2 := Qn h1
   have h3 := Q07 h2
   have h4 := Qn h3
   rw [Qtq (ht ▸ h0'), hk]
   have e : i + ((0, t) :: (2, [40]) :: (parK (decide (lvl 0 a < 4)) (ktc a) ++ (2, [44]) :: (parK (decide (lvl 0 b < 4)) (ktc b) ++ [(2, [41])]))).length =
     i + 1 + 1 + (parK (decide (lvl 0 a < 4)) (ktc a)).length + 1 + (parK (decide (lvl 0 b < 4)) (ktc b)).length + 1 := by simp only [List.length_cons, List.length_append, List.length_nil]; omega
   rw [e]
   exact Qfo (by rw [Q20 h0']) hn h1 (Q2i h2) (operC (m := 4) ia.1 (by unfold okM; omega) (fun h => by simpa using h) h2 Qh6 (fun _ _ => Qh6) f (lv + 1)) h3 (Q2i h4)
    (operC (m := 4) ib.1 (by unfold okM; omega) (fun h => by simpa using h) h4 Q3h (fun _ _ => Q3h) f (lv + 1)) (Q07 h4)
  ·have ia := Q68 a ha
   rcases Q83 ht with h' | h' | ho' | ho'
   ·rw [hk]; exact Qb7 (.inl ⟨rfl, h'⟩) (h' ▸ Qcm) hn ha ia ib.1
   ·rw [hk]; exact Qb7 (.inr (.inl ⟨rfl, h'⟩)) (h' ▸ Qcb) hn ha ia ib.1
   ·have hop := Qag ho'
    have hloose : Q1n t a = false := by
     unfold Q1n
     rw [show (t == kOr || t == kAnd) = false by
      simp only [cmps, List.mem_cons, List.not_mem_nil, or_false] at ho'
      clear hop ht
      rcases ho' with rfl | rfl | rfl | rfl <;> decide]
     rfl
    refine Qcg (.inr (by rw [hk]; exact Q4o hop)) fun f lv i c B h0 hs _ => ?_
    rw [ktc, if_neg (by omega), if_neg (by omega), (Q5d hop).1, (Q5d hop).2, hloose, Bool.false_or] at h0 ⊢
    have hkd : opK t = (2, t) := by unfold opK; rw [if_pos (.inl ho')]
    rw [hkd] at h0 ⊢
    rw [List.append_assoc, List.cons_append] at h0
    have h1 := Q07 h0
    have h2 := Qn h1
    have st4 : Qu 4 (2, t) := by
     simp only [cmps, List.mem_cons, List.not_mem_nil, or_false] at ho'
     rcases ho' with rfl | rfl | rfl | rfl <;> (unfold Qu goC noOp; decide)
    have ra := operC (b := decide (lvl 0 a < 4)) ia.1 (m := 4) (by unfold okM; omega) (fun h => by simpa using h) h0 st4 (fun h h' => by rw [Q9j a ha (by simpa using h)] at h'; cases h') f lv
    have rb := operC (b := decide (lvl 0 b < 4)) ib.1 (m := 4) (by unfold okM; omega) (fun h => by simpa using h) h2 (hs.le (m := 2) (by simp) (by simp) (by omega)) (fun h h' => by rw [Q9j b hb (by simpa using h)] at h'; cases h') f lv
    obtain ⟨d, A, e, hd⟩ := Qch (x := a) (b := decide (lvl 0 a < 4)) (fun hb => Q4b a ha (by simpa using hb))
    have h0' := h0
    rw [e] at h0'
    obtain ⟨d2, K2, hdK⟩ := Q3e (A := parK (decide (lvl 0 b < 4)) (ktc b)) (c := c) (B := B)
    have h1' := h1
    rw [hdK] at h1'
    rw [rd]
    dsimp only
    rw [if_neg (hd.1.isW h0'), if_neg (noOp.isW h0' hd.2)]
    refine ra.bind fun y hy => ?_
    have hw : isW U [[61], [33, 61], [60], [60, 61]] (i + (parK (decide (lvl 0 a < 4)) (ktc a)).length) = true := Q0i h1 (by
     show (_ && List.contains cmps t) = true
     simpa using ho')
    rw [if_pos hw, Q0m h1']
    have e2 : i + (parK (decide (lvl 0 a < 4)) (ktc a) ++ (2, t) :: parK (decide (lvl 0 b < 4)) (ktc b)).length = i + (parK (decide (lvl 0 a < 4)) (ktc a)).length + 1 + (parK (decide (lvl 0 b < 4)) (ktc b)).length := by simp only [List.length_cons, List.length_append]; omega
    rw [e2]
    refine rb.bind fun z hz => ?_
    rw [Q20 h1, hk, hn]
    exact Q0k (.mk trivial (.cons hy (.cons hz .nil)))
   ·rw [hk]; exact Qb7 (.inr (.inr ⟨rfl, ho'⟩)) (Qby ho') hn ha ia ib.1
 | .mk _ _ _ _ (_ :: _ :: _ :: _), h => by simp [okc] at h
end
end
section
def ktS : Syn → List KT
 | .mk _ t _ _ [] => [(0, t)]
 | .mk _ t _ _ [a] => (0, t) :: (2, [40]) :: (ktc a ++ [(2, [41])])
 | .mk _ t n _ [a, b] => parK (decide (lvl 1 a < lft 1 t)) (ktS a) ++ (0, t) :: ((if t = Qb then [(1, dec n.toNat)] else []) ++ parK (decide (lvl 1 b < rgt 1 t)) (ktS b))
 | _ => []
theorem Qef {k : Int} {t : List UInt8} {n p : Int} (h : oks (.mk k t n p []) = true) : (k = 8 ∧ n = 0 ∧ Q1h t = true) ∨ (k = 10 ∧ n = 0 ∧ t = Q1s) := by
 rw [oks, Bool.or_eq_true] at h
 rcases h with h | h
 ·exact .inl ⟨(Q47 h).1, (Q47 h).2.1, (Q47 h).2.2.2⟩
 ·simp only [Bool.and_eq_true, decide_eq_true_eq, beq_iff_eq] at h
  exact .inr ⟨h.1.1, h.1.2, h.2⟩
theorem Qe3 {k : Int} {t : List UInt8} {n p : Int} {a : Syn} (h : oks (.mk k t n p [a]) = true) : k = 10 ∧ n = 0 ∧ ((t = Q19 ∧ okc a = true) ∨ (t ∈ schs ∧ Q2 a = true)) := by
 rw [oks] at h
 simp only [Bool.or_eq_true, Bool.and_eq_true, decide_eq_true_eq, beq_iff_eq] at h
 refine ⟨h.1.1, h.1.2, ?_⟩
 rcases h.2 with h | h
 ·exact .inl h
 ·exact .inr ⟨by simpa using h.1, h.2⟩
theorem Qnq {t : List UInt8} (h : (opP 1 t).isSome = true) : t = kOr ∨ t = kAnd ∨ t = Qb := by
 unfold opP at h
 rw [if_neg (by decide), if_pos rfl] at h
 by_cases h1 : t = kOr
 ·exact .inl h1
 ·by_cases h2 : t = kAnd
  ·exact .inr (.inl h2)
  ·by_cases h3 : t = Qb
   ·exact .inr (.inr h3)
   ·simp [h1, h2, h3] at h
theorem Qfy {k : Int} {t : List UInt8} {n p : Int} {a b : Syn} (h : oks (.mk k t n p [a, b]) = true) :
  k = 11 ∧ oks a = true ∧ oks b = true ∧ ((t = kOr ∧ n = 0) ∨ (t = kAnd ∧ n = 0) ∨ (t = Qb ∧ 0 ≤ n ∧ n ≤ 1048576)) := by
 rw [oks] at h
 simp only [Bool.and_eq_true, decide_eq_true_eq] at h
 obtain ⟨⟨⟨⟨h1, h2⟩, h3⟩, h4⟩, h5⟩ := h
 refine ⟨h1, h4, h5, ?_⟩
 rcases Qnq h2 with rfl | rfl | rfl
 ·rw [if_neg (by decide)] at h3; exact .inl ⟨rfl, of_decide_eq_true h3⟩
 ·rw [if_neg (by decide)] at h3; exact .inr (.inl ⟨rfl, of_decide_eq_true h3⟩)
 ·rw [if_pos rfl] at h3
  unfold natB at h3
  simp only [Bool.and_eq_true, decide_eq_true_eq] at h3
  exact .inr (.inr ⟨rfl, h3⟩)
theorem Qbv {a : Syn} (h : Q2 a = true) : ∃ n p, a = .mk 9 [] n p [] ∧ 0 ≤ n ∧ n ≤ 1048576 := by
 obtain ⟨h1, h2, h3, h4⟩ := Q4t h
 cases a
 simp only [Syn.kind, Syn.text, Syn.num, Syn.kids] at h1 h2 h3 h4
 subst h1 h2 h4
 exact ⟨_, _, rfl, h3⟩
theorem Qpc {a : Syn} (h : Q2 a = true) : okc a = true := by
 obtain ⟨n, p, rfl, h1⟩ := Qbv h
 rw [okc, h]; rfl
theorem Qc4 : ∀ t : Syn, oks t = true → Spl (wrs t) (ktS t)
 | .mk k t n p [], h => by
  rw [wrs, ktS]
  rcases Qef h with ⟨-, -, h1⟩ | ⟨-, -, rfl⟩
  ·exact Q18 (k := 0) (Q4m h1).1
  ·exact Q3s
 | .mk k t n p [a], h => by
  rw [wrs, ktS]
  obtain ⟨-, -, h'⟩ := Qe3 h
  have ia : Spl (wrc a) (ktc a) := by
   rcases h' with ⟨-, h'⟩ | ⟨-, h'⟩
   ·exact Q56 a h'
   ·exact Q56 a (Qpc h')
  have ht : tok t = .ok (0, t.length) := by
   clear h
   rcases h' with ⟨rfl, -⟩ | ⟨h', -⟩
   ·exact tokIs (by decide)
   ·simp only [schs, List.mem_cons, List.not_mem_nil, or_false] at h'
    rcases h' with rfl | rfl | rfl | rfl | rfl <;> exact tokIs (by decide)
  exact (Q18 ht).thenC (Spl.signed (.inl rfl) (ia.thenC (Q35 (.inr (.inl rfl)))))
 | .mk k t n p [a, b], h => by
  rw [wrs, ktS]
  obtain ⟨-, ha, hb, h'⟩ := Qfy h
  have ia := Qc4 a ha
  have ib := Qc4 b hb
  clear h
  rcases h' with ⟨rfl, -⟩ | ⟨rfl, -⟩ | ⟨rfl, h1, h2⟩
  ·rw [if_neg (by decide), if_neg (by decide)]
   exact (Q26 ia).thenC ((Q3s).thenC (Q26 ib).blank).blank
  ·rw [if_neg (by decide), if_neg (by decide)]
   exact (Q26 ia).thenC ((Q3s).thenC (Q26 ib).blank).blank
  ·rw [if_pos rfl, if_pos rfl, List.append_assoc]
   exact (Q26 ia).thenC ((Q3s).thenC ((Q18 (k := 1) (Q9y (show n.toNat ≤ 1048576 by omega))).thenC (Q26 ib).blank).blank).blank
 | .mk _ _ _ _ (_ :: _ :: _ :: _), h => by simp [oks] at h
def nts : Nat → NT | 0 => .scheme | 1 => .term | 2 => .factor | _ => .atom
def goS (m : Nat) : List (List (List UInt8)) := if m = 0 then [[kOr], [kAnd], [Qb]] else if m = 1 then [[kAnd], [Qb]] else if m = 2 then [[Qb]] else []
def Q1t (m : Nat) (c : KT) : Prop := ∀ ws ∈ goS m, noOp ws c
theorem Q1t.le {m m' : Nat} {c : KT} (h : Q1t m c) (hm' : m' ≤ 3) (hl : m ≤ m') : Q1t m' c := fun ws hw => h ws (by
 have hm : m = 0 ∨ m = 1 ∨ m = 2 ∨ m = 3 := by omega
 have hm' : m' = 0 ∨ m' = 1 ∨ m' = 2 ∨ m' = 3 := by omega
 rcases hm with rfl | rfl | rfl | rfl <;> rcases hm' with rfl | rfl | rfl | rfl <;> first | omega | (simp [goS] at hw; done) | exact hw | (simp [goS] at hw ⊢; first | done | exact hw | (subst hw; simp; done) | (rcases hw with rfl | rfl <;> simp; done)))
theorem Qrs {m : Nat} : Q1t m (2, [41]) := by
 unfold Q1t goS noOp
 split <;> (try split) <;> (try split) <;> decide
section
variable {U : List Tok} {f lv i L : Nat} {x a b : Syn} {A B : List KT} {c : KT} {t : List UInt8}
abbrev RS (U : List Tok) (f m : Nat) : Rd := rd Q0 U f (nts m)
theorem upS23 (h : ∀ f lv, DN x L (RS U f 3 lv i)) (hL : Tl U L (c :: B)) (hs : Q1t 2 c) : ∀ f lv, DN x L (RS U f 2 lv i)
 | 0, _ => trivial
 | f + 1, lv => by
  show DN x L (rd Q0 U (f + 1) .factor lv i)
  rw [rd]
  dsimp only
  refine (h f lv).bind fun y hy => ?_
  rw [if_neg (noOp.isW hL (hs [Qb] (by simp [goS])))]
  exact Q0k hy
theorem upS12 (h : ∀ f lv, DN x L (RS U f 2 lv i)) (hL : Tl U L (c :: B)) (hs : Q1t 1 c) : ∀ f lv, DN x L (RS U f 1 lv i)
 | 0, _ => trivial
 | f + 1, lv => Q3j (r := RS U f 2) (Q28 (h f lv)) (noOp.isW hL (hs [kAnd] (by simp [goS])))
theorem upS01 (h : ∀ f lv, DN x L (RS U f 1 lv i)) (hL : Tl U L (c :: B)) (hs : Q1t 0 c) : ∀ f lv, DN x L (RS U f 0 lv i)
 | 0, _ => trivial
 | f + 1, lv => Q3j (r := RS U f 1) (Q28 (h f lv)) (noOp.isW hL (hs [kOr] (by simp [goS])))
theorem upS {m m' : Nat} (hm : m ≤ 3) (hl : m' ≤ m) (h : ∀ f lv, DN x L (RS U f m lv i)) (hL : Tl U L (c :: B)) (hs : Q1t m' c) : ∀ f lv, DN x L (RS U f m' lv i) := by
 by_cases e3 : m' = 3
 ·obtain rfl : m = m' := by omega
  exact h
 have h2 : 2 ≤ m → ∀ f lv, DN x L (RS U f 2 lv i) := fun e => by
  by_cases e' : m = 2
  ·exact e' ▸ h
  ·obtain rfl : m = 3 := by omega
   exact upS23 h hL (hs.le (by omega) (by omega))
 by_cases e2 : m' = 2
 ·subst e2; exact h2 hl
 have h1 : 1 ≤ m → ∀ f lv, DN x L (RS U f 1 lv i) := fun e => by
  by_cases e' : m = 1
  ·exact e' ▸ h
  ·exact upS12 (h2 (by omega)) hL (hs.le (by omega) (by omega))
 by_cases e1 : m' = 1
 ·subst e1; exact h1 hl
 obtain rfl : m' = 0 := by omega
 by_cases e' : m = 0
 ·exact e' ▸ h
 ·exact upS01 (h1 (by omega)) hL hs
def RdS (U : List Tok) (t : Syn) : Prop :=
 ∀ m f lv i c B, m ≤ 3 → m ≤ lvl 1 t → Tl U i (ktS t ++ c :: B) → Q1t m c → DN t (i + (ktS t).length) (RS U f m lv i)
theorem operS {b : Bool} {m : Nat} (h : RdS U x) (hm : m ≤ 3) (hb : b = false → m ≤ lvl 1 x) (h0 : Tl U i (parK b (ktS x) ++ c :: B)) (hs : Q1t m c) :
  ∀ f lv, DN x (i + (parK b (ktS x)).length) (RS U f m lv i) := by
 cases b with
 | false => exact fun f lv => h m f lv i c B hm (hb rfl) h0 hs
 | true =>
  have h0' : Tl U i ((2, [40]) :: (ktS x ++ (2, [41]) :: c :: B)) := by simpa [parK] using h0
  have h1 := Qn h0'
  have h2 := Q07 (A := ktS x) h1
  have hlen : i + (parK true (ktS x)).length = i + 1 + (ktS x).length + 1 := by simp [parK]; omega
  rw [hlen]
  refine upS (m := 3) (Nat.le_refl _) hm (fun f lv => ?_) (Qn h2) hs
  cases f with
  | zero => trivial
  | succ f =>
   show DN x _ (rd Q0 U (f + 1) .atom lv i)
   rw [Qn9 h0']
   exact Q8b h0' (Q2i h1) (h 0 f (lv + 1) (i + 1) _ _ (by omega) (Nat.zero_le _) h1 Qrs) h2
def opsS (p : Nat) : List (List UInt8) := if p = 0 then [kOr] else [kAnd]
def SpS (U : List Tok) (t : Syn) : Prop :=
 ∀ p f lv i c B, p ≤ 1 → p ≤ lvl 1 t → Tl U i (ktS t ++ c :: B) → Q1t (p + 1) c → SP U (RS U f (p + 1)) (opsS p) lv i t (i + (ktS t).length)
theorem Qgh (h : RdS U x) (hl : 2 ≤ lvl 1 x) : SpS U x := fun p f lv i c B hp hle h0 hs => Q28 (h (p + 1) f lv i c B (by omega) (by omega) h0 hs)
theorem Qdn {p : Nat} (h : (p = 0 ∧ t = kOr) ∨ (p = 1 ∧ t = kAnd)) : Q1t (p + 1) (0, t) := by
 rcases h with ⟨rfl, rfl⟩ | ⟨rfl, rfl⟩ <;> (unfold Q1t goS noOp; decide)
theorem Qhc {n p : Int} {ks : List Syn} {o l r : Nat} (h : opP 1 t = some (o, l, r)) : lvl 1 (.mk 11 t n p ks) = o := by simp [lvl, Syn.kind, Syn.text, own, h]
theorem Q8o {o l r : Nat} (h : opP 1 t = some (o, l, r)) : lft 1 t = l ∧ rgt 1 t = r := by simp [lft, rgt, h]
theorem Qho {p : Nat} {n q : Int} (hp : (p = 0 ∧ t = kOr) ∨ (p = 1 ∧ t = kAnd)) (ho : opP 1 t = some (p, p, p + 1)) (hn : n = 0)
  (ha : RdS U a ∧ SpS U a) (hb : RdS U b) : RdS U (.mk 11 t n q [a, b]) ∧ SpS U (.mk 11 t n q [a, b]) := by
 have hp' : p ≤ 1 := by rcases hp with ⟨h, -⟩ | ⟨h, -⟩ <;> omega
 have hlvl : lvl 1 (.mk 11 t n q [a, b]) = p := Qhc ho
 have hkt : ktS (.mk 11 t n q [a, b]) = parK (decide (lvl 1 a < p)) (ktS a) ++ (0, t) :: parK (decide (lvl 1 b < p + 1)) (ktS b) := by
  have : ¬ t = Qb := by rcases hp with ⟨-, rfl⟩ | ⟨-, rfl⟩ <;> decide
  rw [ktS, (Q8o ho).1, (Q8o ho).2, if_neg this]; rfl
 have core : ∀ f lv i c B, Tl U i (ktS (.mk 11 t n q [a, b]) ++ c :: B) → Q1t (p + 1) c →
   SP U (RS U f (p + 1)) (opsS p) lv i (.mk 11 t n q [a, b]) (i + (ktS (.mk 11 t n q [a, b])).length) := by
  intro f lv i c B h0 hs
  rw [hkt, List.append_assoc, List.cons_append] at h0
  have h1 := Q07 h0
  obtain ⟨d, K, hdK⟩ := Q3e (A := parK (decide (lvl 1 b < p + 1)) (ktS b)) (c := c) (B := B)
  have hl : SP U (RS U f (p + 1)) (opsS p) lv i a (i + (parK (decide (lvl 1 a < p)) (ktS a)).length) := by
   cases hbl : decide (lvl 1 a < p) with
   | true =>
    rw [hbl] at h0
    exact Q28 (operS (b := true) ha.1 (by omega) (fun h => by cases h) h0 (Qdn hp) f lv)
   | false =>
    rw [hbl] at h0
    simp only [decide_eq_false_iff_not] at hbl
    exact ha.2 p f lv i _ _ hp' (by omega) h0 (Qdn hp)
  have h1' := h1
  rw [hdK] at h1'
  have hr := operS (b := decide (lvl 1 b < p + 1)) hb (m := p + 1) (by omega) (fun h => by simpa using h) (Qn h1) hs f lv
  have := Qa3 (p := q) hl h1' (.inr rfl) (by rcases hp with ⟨rfl, rfl⟩ | ⟨rfl, rfl⟩ <;> simp [opsS]) hr
  rw [hkt, hn]
  have e : i + (parK (decide (lvl 1 a < p)) (ktS a) ++ (0, t) :: parK (decide (lvl 1 b < p + 1)) (ktS b)).length = i + (parK (decide (lvl 1 a < p)) (ktS a)).length + 1 + (parK (decide (lvl 1 b < p + 1)) (ktS b)).length := by
   simp only [List.length_append, List.length_cons]; omega
  rw [e]
  exact this
 have rdp : ∀ f lv i c B, Tl U i (ktS (.mk 11 t n q [a, b]) ++ c :: B) → Q1t p c → DN (.mk 11 t n q [a, b]) (i + (ktS (.mk 11 t n q [a, b])).length) (RS U f p lv i) := by
  intro f lv i c B h0 hs
  cases f with
  | zero => trivial
  | succ f =>
   have h1 := Q3j (core f lv i c B h0 (hs.le (by omega) (by omega))) (noOp.isW (Q07 h0) (hs _ (by rcases hp with ⟨rfl, rfl⟩ | ⟨rfl, rfl⟩ <;> simp [goS, opsS])))
   rcases hp with ⟨rfl, -⟩ | ⟨rfl, -⟩ <;> exact h1
 have hrd : RdS U (.mk 11 t n q [a, b]) := by
  intro m f lv i c B hm hle h0 hs
  rw [hlvl] at hle
  exact upS (by omega) hle (fun f lv => rdp f lv i c B h0 (hs.le (by omega) hle)) (Q07 h0) hs f lv
 refine ⟨hrd, fun p' f lv i c B hp1 hle h0 hs => ?_⟩
 rw [hlvl] at hle
 by_cases e : p' = p
 ·subst e; exact core f lv i c B h0 hs
 ·exact Q28 (hrd (p' + 1) f lv i c B (by omega) (by rw [hlvl]; omega) h0 hs)
theorem Qpz {K : List KT} (h0 : Tl U i ((0, t) :: c :: K)) (hn : Q1h t = true) : rd Q0 U (f + 1) .atom lv i = .ok (.mk 8 t 0 (tk U i).pos []) (i + 1) := by
 have hr := (Q4m hn).2
 rw [rd]
 dsimp only
 rw [if_neg (Q5r h0 hr), if_neg (Q5r h0 hr), if_neg (Q5r h0 hr), if_neg (Qdf h0 (Qh2 hn).1)]
 exact Q8v h0 hr
theorem Qox {K : List KT} (h0 : Tl U i ((0, Q1s) :: c :: K)) : rd Q0 U (f + 1) .atom lv i = .ok (.mk 10 Q1s 0 (tk U i).pos []) (i + 1) := by
 rw [rd]
 dsimp only
 rw [if_neg (Q03 h0 (by decide)), if_pos (Q0i h0 (by decide)), Q20 h0, Q0m h0]
theorem Qs1 {K : List KT} (h0 : Tl U i ((0, Q19) :: c :: K)) : rd Q0 U (f + 1) .atom lv i = arguments U (tk U i) [rd Q0 U f .cond] lv (i + 1) := by
 rw [rd]
 dsimp only
 rw [if_neg (Q03 h0 (by decide)), if_neg (Q03 h0 (by decide)), if_pos (Q0i h0 (by decide)), Q0m h0]
theorem Qjx {K : List KT} (h0 : Tl U i ((0, t) :: c :: K)) (ht : t ∈ schs) : rd Q0 U (f + 1) .atom lv i = arguments U (tk U i) [fun _ => number U] lv (i + 1) := by
 rw [rd]
 dsimp only
 rw [if_pos (Q0i h0 (by simpa using ht)), Q0m h0]
theorem Qoq {n p : Int} {w : List UInt8} {K : List KT} (h0 : Tl U i ((1, w) :: c :: K)) (hn : 0 ≤ n) (hw : w = dec n.toNat) : DN (.mk 9 [] n p []) (i + 1) (number U i) := by
 rw [Q6p h0, hw, Q7e, show ((n.toNat : Nat) : Int) = n by omega]
 exact Q0k (.mk trivial .nil)
theorem Qc7 {t : Syn} (hl : lvl 1 t = 5) (h : ∀ f lv i c B, Tl U i (ktS t ++ c :: B) → DN t (i + (ktS t).length) (rd Q0 U (f + 1) .atom lv i)) : RdS U t ∧ SpS U t := by
 have h1 : RdS U t := fun m f lv i c B hm hle h0 hs => by
  refine upS (m := 3) (Nat.le_refl _) hm (fun f lv => ?_) (Q07 h0) hs f lv
  cases f with
  | zero => trivial
  | succ f => exact h f lv i c B h0
 exact ⟨h1, Qgh h1 (by omega)⟩
theorem Qbe : ∀ t : Syn, oks t = true → RdS U t ∧ SpS U t
 | .mk k t n p [], h => by
  rcases Qef h with ⟨hk, hn, h1⟩ | ⟨hk, hn, ht⟩
  ·refine Qc7 (by simp [lvl, Syn.kind, hk]) fun f lv i c B h0 => ?_
   rw [ktS] at h0 ⊢
   rw [Qpz h0 h1, hk, hn]
   exact Q0k (.mk trivial .nil)
  ·refine Qc7 (by simp [lvl, Syn.kind, hk]) fun f lv i c B h0 => ?_
   rw [ktS, ht] at h0 ⊢
   rw [Qox h0, hk, hn]
   exact Q0k (.mk trivial .nil)
 | .mk k t n p [a], h => by
  obtain ⟨hk, hn, h'⟩ := Qe3 h
  refine Qc7 (by simp [lvl, Syn.kind, hk]) fun f lv i c B h0 => ?_
  rw [ktS] at h0 ⊢
  have h0' : Tl U i ((0, t) :: (2, [40]) :: (ktc a ++ (2, [41]) :: c :: B)) := by simpa using h0
  have h1 := Qn h0'
  have h2 := Qn h1
  have e : i + ((0, t) :: (2, [40]) :: (ktc a ++ [(2, [41])])).length = i + 1 + 1 + (ktc a).length + 1 := by simp only [List.length_cons, List.length_append, List.length_nil]; omega
  rw [e, hk]
  rcases h' with ⟨ht, ha⟩ | ⟨ht, ha⟩
  ·rw [Qs1 (ht ▸ h0')]
   exact Q7s (by rw [Q20 h0']) hn h1 (Q2i h2) ((Q68 a ha).1 0 f (lv + 1) _ _ _ (by unfold okM; omega) (Nat.zero_le _) h2 Q3h (fun _ => Q3h)) (Q07 h2)
  ·rw [Qjx h0' ht]
   obtain ⟨na, pa, rfl, hna, -⟩ := Qbv ha
   have e2 : ktc (.mk 9 [] na pa []) = [(1, dec na.toNat)] := by rw [ktc, if_pos rfl]
   rw [e2] at h2 ⊢
   exact Q7s (by rw [Q20 h0']) hn h1 (Q2i h2) (Qoq h2 hna rfl) (Qn h2)
 | .mk k t n p [a, b], h => by
  obtain ⟨hk, ha, hb, h'⟩ := Qfy h
  have ia := Qbe a ha
  have ib := Qbe b hb
  rcases h' with ⟨ht, hn⟩ | ⟨ht, hn⟩ | ⟨ht, hn1, hn2⟩
  ·rw [hk]; exact Qho (.inl ⟨rfl, ht⟩) (by rw [ht]; decide) hn ia ib.1
  ·rw [hk]; exact Qho (.inr ⟨rfl, ht⟩) (by rw [ht]; decide) hn ia ib.1
  ·have ho : opP 1 t = some (2, 3, 2) := by rw [ht]; decide
   have hlvl : lvl 1 (.mk k t n p [a, b]) = 2 := by rw [hk]; exact Qhc ho
   have h1 : RdS U (.mk k t n p [a, b]) := fun m f lv i c B hm hle h0 hs => by
    rw [hlvl] at hle
    refine upS (m := 2) (by omega) hle (fun f lv => ?_) (Q07 h0) hs f lv
    cases f with
    | zero => trivial
    | succ f =>
     show DN _ _ (rd Q0 U (f + 1) .factor lv i)
     rw [ktS, (Q8o ho).1, (Q8o ho).2, if_pos ht] at h0 ⊢
     have h0' : Tl U i (parK (decide (lvl 1 a < 3)) (ktS a) ++ (0, t) :: (1, dec n.toNat) :: (parK (decide (lvl 1 b < 2)) (ktS b) ++ c :: B)) := by simpa using h0
     have t1 := Q07 h0'
     have t2 := Qn t1
     have t3 := Qn t2
     obtain ⟨d, K, hdK⟩ := Q3e (A := parK (decide (lvl 1 b < 2)) (ktS b)) (c := c) (B := B)
     have t2' := t2
     rw [hdK] at t2'
     rw [rd]
     dsimp only
     refine (operS (m := 3) ia.1 (by omega) (fun h => by simpa using h) h0' (by unfold Q1t goS; simp) f lv).bind fun y hy => ?_
     rw [if_pos (Q0i t1 (by rw [ht]; decide)), Q0m t1, Q6p t2', Q15]
     have e : i + (parK (decide (lvl 1 a < 3)) (ktS a) ++ (0, t) :: ([(1, dec n.toNat)] ++ parK (decide (lvl 1 b < 2)) (ktS b))).length = i + (parK (decide (lvl 1 a < 3)) (ktS a)).length + 1 + 1 + (parK (decide (lvl 1 b < 2)) (ktS b)).length := by
      simp only [List.length_cons, List.length_append, List.length_nil]; omega
     rw [e]
     refine (Q66 (operS (m := 2) ib.1 (by omega) (fun h => by simpa using h) t3 (hs.le (by omega) hle) f (lv + 1))).bind fun z hz => ?_
     rw [Q7e, hk, ht]
     have : (Syn.mk 9 [] ((n.toNat : Nat) : Int) (tk U (i + (parK (decide (lvl 1 a < 3)) (ktS a)).length + 1)).pos []).num = n := by show ((n.toNat : Nat) : Int) = n; omega
     rw [this]
     exact Q0k (.mk trivial (.cons hy (.cons hz .nil)))
   exact ⟨h1, Qgh h1 (by omega)⟩
 | .mk _ _ _ _ (_ :: _ :: _ :: _), h => by simp [oks] at h
end
end
end Go.Proofs.YtplbfmcgddnkeaaGreatDoor
