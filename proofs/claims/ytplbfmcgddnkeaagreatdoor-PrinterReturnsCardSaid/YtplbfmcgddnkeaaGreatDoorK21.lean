/- Joined: WpF, Dec. -/
import Derived.Test.YtplbfmcgddnkeaaGreatDoorK20
import Derived.Test.YtplbfmcgddnkeaaGreatDoorK15
set_option linter.unusedVariables false
set_option linter.unusedSimpArgs false
section
namespace Go.Proofs.YtplbfmcgddnkeaaGreatDoor
def tailK (ks : List Syn) : List KT := ks.flatMap fun x => [(2, [44]), (1, dec x.num.toNat)]
def ksetK (ks : List Syn) : List KT := (2, [123]) :: ((match ks with | [] => [] | x :: r => (1, dec x.num.toNat) :: tailK r) ++ [(2, [125])])
def kta (a : Syn) : List KT := if a.kind = 9 then [(1, dec a.num.toNat)] else if a.text = [] then ksetK a.kids else [(0, a.text)]
def ktf : Syn → List KT
  | .mk _ t _ _ [] => [(0, t)]
  | .mk k t _ _ [a] => if k = 12 then (0, kNot) :: parK (decide (lvl 2 a < 3)) (ktf a) else if fone.contains t then (0, t) :: (2, [40]) :: (kta a ++ [(2, [41])]) else (0, t) :: (2, [40]) :: (ktf a ++ [(2, [41])])
  | .mk k t _ _ [a, b] =>
    if k = 10 then if ftwo.contains t then (0, t) :: (2, [40]) :: (kta a ++ (2, [44]) :: (kta b ++ [(2, [41])])) else (0, t) :: (2, [40]) :: (kta a ++ (2, [44]) :: (ktf b ++ [(2, [41])]))
    else parK (decide (lvl 2 a < lft 2 t)) (ktf a) ++ (0, t) :: parK (decide (lvl 2 b < rgt 2 t)) (ktf b)
  | _ => []
theorem okf_nil {k : Int} {t : List UInt8} {n p : Int} (h : okf (.mk k t n p []) = true) : k = 10 ∧ n = 0 ∧ t = kTrue := by
  rw [okf] at h
  simp only [Bool.and_eq_true, decide_eq_true_eq, beq_iff_eq] at h
  exact ⟨h.1.1, h.1.2, h.2⟩
theorem okf_one {k : Int} {t : List UInt8} {n p : Int} {a : Syn} (h : okf (.mk k t n p [a]) = true) : n = 0 ∧ ((k = 12 ∧ t = [] ∧ okf a = true) ∨ (k = 10 ∧ ((t ∈ fone ∧ isNum a = true) ∨ (t ∈ ftim ∧ okf a = true)))) := by
  rw [okf] at h
  simp only [Bool.or_eq_true, Bool.and_eq_true, decide_eq_true_eq, beq_iff_eq, List.contains_iff_mem] at h
  rcases h with ⟨⟨⟨h1, h2⟩, h3⟩, h4⟩ | ⟨⟨h1, h2⟩, h3⟩
  · exact ⟨h3, .inl ⟨h1, h2, h4⟩⟩
  · exact ⟨h2, .inr ⟨h1, h3⟩⟩
theorem opf_cases {t : List UInt8} (h : (opP 2 t).isSome = true) : t = kUntil ∨ t = kOr ∨ t = kAnd := by
  unfold opP at h
  rw [if_neg (by decide), if_neg (by decide)] at h
  by_cases h1 : t = kUntil
  · exact .inl h1
  · by_cases h2 : t = kOr
    · exact .inr (.inl h2)
    · by_cases h3 : t = kAnd
      · exact .inr (.inr h3)
      · simp [h1, h2, h3] at h
theorem okf_two {k : Int} {t : List UInt8} {n p : Int} {a b : Syn} (h : okf (.mk k t n p [a, b]) = true) :
    n = 0 ∧ ((k = 10 ∧ ((t ∈ ftwo ∧ isNum a = true ∧ isNum b = true) ∨ (t = [75] ∧ isNum a = true ∧ okf b = true) ∨ (t ∈ fset ∧ isSet a = true ∧ okf b = true))) ∨
      (k = 11 ∧ okf a = true ∧ okf b = true ∧ (t = kUntil ∨ t = kOr ∨ t = kAnd))) := by
  rw [okf] at h
  simp only [Bool.or_eq_true, Bool.and_eq_true, decide_eq_true_eq, beq_iff_eq, List.contains_iff_mem] at h
  rcases h with ⟨⟨h1, h2⟩, h3⟩ | ⟨⟨⟨⟨h1, h2⟩, h3⟩, h4⟩, h5⟩
  · refine ⟨h2, .inl ⟨h1, ?_⟩⟩
    rcases h3 with (⟨⟨h3, h4⟩, h5⟩ | ⟨⟨h3, h4⟩, h5⟩) | ⟨⟨h3, h4⟩, h5⟩
    · exact .inl ⟨h3, h4, h5⟩
    · exact .inr (.inl ⟨h3, h4, h5⟩)
    · exact .inr (.inr ⟨h3, h4, h5⟩)
  · exact ⟨h2, .inr ⟨h1, h4, h5, opf_cases h3⟩⟩
theorem set_parts {a : Syn} (h : isSet a = true) : a.kind = 14 ∧ a.num = 0 ∧ ((a.text = kEvery ∧ a.kids = []) ∨ (a.text = [] ∧ ∀ x ∈ a.kids, isNum x = true)) := by
  unfold isSet at h
  simp only [Bool.or_eq_true, Bool.and_eq_true, decide_eq_true_eq, beq_iff_eq, List.isEmpty_iff, List.all_eq_true] at h
  exact ⟨h.1.1, h.1.2, h.2⟩
theorem commas_tail (x : List UInt8) : ∀ r : List (List UInt8), commas (x :: r) = x ++ r.flatMap fun y => 44 :: 32 :: y
  | [] => by simp [commas]
  | y :: r => by rw [commas, commas_tail y r]; simp
theorem spl_num {a : Syn} (h : isNum a = true) : Spl (dec a.num.toNat) [(1, dec a.num.toNat)] := by
  have := (num_parts h).2.2.1
  exact spl_tok (k := 1) (dec_tok (by omega))
theorem spl_tail {s : List UInt8} {K : List KT} (hs : Spl s K) (hsep : ∀ y, sepd y → sepd (s ++ y)) : ∀ ks : List Syn, (∀ x ∈ ks, isNum x = true) →
    Spl ((ks.flatMap fun x => 44 :: 32 :: dec x.num.toNat) ++ s) (tailK ks ++ K) ∧ ∀ y, sepd y → sepd ((ks.flatMap fun x => 44 :: 32 :: dec x.num.toNat) ++ s ++ y)
  | [], _ => ⟨hs, hsep⟩
  | x :: r, h => by
    obtain ⟨h1, h2⟩ := spl_tail hs hsep r fun y hy => h y (List.mem_cons_of_mem _ hy)
    refine ⟨?_, fun y hy => sepd_cons (by decide) (by decide)⟩
    have e1 : ((x :: r).flatMap fun x => 44 :: 32 :: dec x.num.toNat) ++ s = 44 :: 32 :: (dec x.num.toNat ++ ((r.flatMap fun x => 44 :: 32 :: dec x.num.toNat) ++ s)) := by simp
    have e2 : tailK (x :: r) ++ K = (2, [44]) :: ([(1, dec x.num.toNat)] ++ (tailK r ++ K)) := by simp [tailK]
    rw [e1, e2]
    exact Spl.signed (by simp) ((spl_num (h x (List.mem_cons_self ..))).then h1 h2).blank
theorem spl_arg {a : Syn} (h : isNum a = true ∨ isSet a = true) : Spl (warg a) (kta a) := by
  unfold warg kta
  rcases h with h | h
  · have := (num_parts h).1
    rw [if_pos this, if_pos this]
    exact spl_num h
  · obtain ⟨h1, -, h2⟩ := set_parts h
    rw [if_neg (by omega), if_neg (by omega)]
    unfold wset
    rcases h2 with ⟨h2, h3⟩ | ⟨h2, h3⟩
    · rw [if_neg (by rw [h2]; decide), if_neg (by rw [h2]; decide), h2]
      exact spl_kw
    · rw [if_pos h2, if_pos h2]
      unfold ksetK
      refine Spl.signed (by simp) ?_
      cases hk : a.kids with
      | nil => exact spl_sign (by simp)
      | cons x r =>
        rw [hk] at h3
        obtain ⟨q1, q2⟩ := spl_tail (spl_sign (b := 125) (by simp)) (sepd_app (t := []) (by decide) (by decide)) r fun y hy => h3 y (List.mem_cons_of_mem _ hy)
        have e1 : commas ((x :: r).map fun x => dec x.num.toNat) ++ [125] = dec x.num.toNat ++ ((r.flatMap fun x => 44 :: 32 :: dec x.num.toNat) ++ [125]) := by
          rw [List.map_cons, commas_tail, List.append_assoc, List.flatMap_map]
        rw [e1]
        exact (spl_num (h3 x (List.mem_cons_self ..))).then q1 q2
theorem spl_f : ∀ t : Syn, okf t = true → Spl (wrf t) (ktf t)
  | .mk k t n p [], h => by
    rw [wrf, ktf]
    obtain ⟨-, -, h'⟩ := okf_nil h
    rw [h']
    exact spl_kw
  | .mk k t n p [a], h => by
    rw [wrf, ktf]
    obtain ⟨-, h'⟩ := okf_one h
    rcases h' with ⟨hk, -, ha⟩ | ⟨hk, ⟨ht, ha⟩ | ⟨ht, ha⟩⟩
    · rw [if_pos hk, if_pos hk]
      exact (spl_kw).thenC (spl_par (spl_f a ha)).blank
    · have hw : tok t = .ok (0, t.length) := by
        clear h
        simp only [fone, List.mem_cons, List.not_mem_nil, or_false] at ht
        rcases ht with rfl | rfl | rfl <;> exact tokIs (by decide)
      have hc : fone.contains t = true := by simpa using ht
      rw [if_neg (by omega), if_pos hc, if_neg (by omega), if_pos hc]
      exact (spl_tok hw).thenC (Spl.signed (.inl rfl) ((spl_arg (.inl ha)).thenC (spl_sign (.inr (.inl rfl)))))
    · have hw : tok t = .ok (0, t.length) ∧ fone.contains t = false := by
        clear h
        simp only [ftim, List.mem_cons, List.not_mem_nil, or_false] at ht
        rcases ht with rfl | rfl | rfl <;> exact ⟨tokIs (by decide), by decide⟩
      rw [if_neg (by omega), if_neg (by rw [hw.2]; decide), if_neg (by omega), if_neg (by rw [hw.2]; decide)]
      exact (spl_tok hw.1).thenC (Spl.signed (.inl rfl) ((spl_f a ha).thenC (spl_sign (.inr (.inl rfl)))))
  | .mk k t n p [a, b], h => by
    rw [wrf, ktf]
    obtain ⟨-, h'⟩ := okf_two h
    rcases h' with ⟨hk, h'⟩ | ⟨hk, ha, hb, h'⟩
    · rw [if_pos hk, if_pos hk]
      rcases h' with ⟨ht, ha, hb⟩ | ⟨ht, ha, hb⟩ | ⟨ht, ha, hb⟩
      · have hw : tok t = .ok (0, t.length) := by
          clear h
          simp only [ftwo, List.mem_cons, List.not_mem_nil, or_false] at ht
          rcases ht with rfl | rfl | rfl <;> exact tokIs (by decide)
        have hc : ftwo.contains t = true := by simpa using ht
        rw [if_pos hc, if_pos hc]
        exact (spl_tok hw).thenC (Spl.signed (.inl rfl) ((spl_arg (.inl ha)).thenC (Spl.signed (by simp) ((spl_arg (.inl hb)).thenC (spl_sign (.inr (.inl rfl)))).blank)))
      · have hw : tok t = .ok (0, t.length) ∧ ftwo.contains t = false := by
          clear h
          subst ht
          exact ⟨tokIs (by decide), by decide⟩
        rw [if_neg (by rw [hw.2]; decide), if_neg (by rw [hw.2]; decide)]
        exact (spl_tok hw.1).thenC (Spl.signed (.inl rfl) ((spl_arg (.inl ha)).thenC (Spl.signed (by simp) ((spl_f b hb).thenC (spl_sign (.inr (.inl rfl)))).blank)))
      · have hw : tok t = .ok (0, t.length) ∧ ftwo.contains t = false := by
          clear h
          simp only [fset, List.mem_cons, List.not_mem_nil, or_false] at ht
          rcases ht with rfl | rfl | rfl <;> exact ⟨tokIs (by decide), by decide⟩
        rw [if_neg (by rw [hw.2]; decide), if_neg (by rw [hw.2]; decide)]
        exact (spl_tok hw.1).thenC (Spl.signed (.inl rfl) ((spl_arg (.inr ha)).thenC (Spl.signed (by simp) ((spl_f b hb).thenC (spl_sign (.inr (.inl rfl)))).blank)))
    · rw [if_neg (by omega), if_neg (by omega)]
      have hw : tok t = .ok (0, t.length) := by
        clear h
        rcases h' with rfl | rfl | rfl <;> exact tokIs (by decide)
      exact (spl_par (spl_f a ha)).thenC ((spl_tok hw).thenC (spl_par (spl_f b hb)).blank).blank
  | .mk _ _ _ _ (_ :: _ :: _ :: _), h => by simp [okf] at h
def ntf : Nat → NT | 0 => .formula | 1 => .disj | 2 => .meet | _ => .lit
def goF (m : Nat) : List (List (List UInt8)) := if m = 0 then [[kUntil], [kOr], [kAnd]] else if m = 1 then [[kOr], [kAnd]] else if m = 2 then [[kAnd]] else []
def stopF (m : Nat) (c : KT) : Prop := ∀ ws ∈ goF m, noOp ws c
theorem stopF.le {m m' : Nat} {c : KT} (h : stopF m c) (hm' : m' ≤ 3) (hl : m ≤ m') : stopF m' c := fun ws hw => h ws (by
  have hm : m = 0 ∨ m = 1 ∨ m = 2 ∨ m = 3 := by omega
  have hm' : m' = 0 ∨ m' = 1 ∨ m' = 2 ∨ m' = 3 := by omega
  rcases hm with rfl | rfl | rfl | rfl <;> rcases hm' with rfl | rfl | rfl | rfl <;> first | omega | (simp [goF] at hw; done) | exact hw | (simp [goF] at hw ⊢; first | done | exact hw | (subst hw; simp; done) | (rcases hw with rfl | rfl <;> simp; done)))
theorem stopF_41 {m : Nat} : stopF m (2, [41]) := by
  unfold stopF goF noOp
  split <;> (try split) <;> (try split) <;> decide
section
variable {U : List Tok} {f lv i L : Nat} {x a b : Syn} {A B : List KT} {c : KT} {t : List UInt8}
abbrev RF (U : List Tok) (f m : Nat) : Rd := rd reservedB U f (ntf m)
theorem upF12 (h : ∀ f lv, DN x L (RF U f 3 lv i)) (hL : Tl U L (c :: B)) (hs : stopF 2 c) : ∀ f lv, DN x L (RF U f 2 lv i)
  | 0, _ => trivial
  | f + 1, lv => sp_end (r := RF U f 3) (sp_of (h f lv)) (noOp.isW hL (hs [kAnd] (by simp [goF])))
theorem upF01 (h : ∀ f lv, DN x L (RF U f 2 lv i)) (hL : Tl U L (c :: B)) (hs : stopF 1 c) : ∀ f lv, DN x L (RF U f 1 lv i)
  | 0, _ => trivial
  | f + 1, lv => sp_end (r := RF U f 2) (sp_of (h f lv)) (noOp.isW hL (hs [kOr] (by simp [goF])))
theorem upF00 (h : ∀ f lv, DN x L (RF U f 1 lv i)) (hL : Tl U L (c :: B)) (hs : stopF 0 c) : ∀ f lv, DN x L (RF U f 0 lv i)
  | 0, _ => trivial
  | f + 1, lv => by
    show DN x L (rd reservedB U (f + 1) .formula lv i)
    rw [rd]
    dsimp only
    refine (h f lv).bind fun y hy => ?_
    rw [if_neg (noOp.isW hL (hs [kUntil] (by simp [goF])))]
    exact dn_ok hy
theorem upF {m m' : Nat} (hm : m ≤ 3) (hl : m' ≤ m) (h : ∀ f lv, DN x L (RF U f m lv i)) (hL : Tl U L (c :: B)) (hs : stopF m' c) : ∀ f lv, DN x L (RF U f m' lv i) := by
  by_cases e3 : m' = 3
  · obtain rfl : m = m' := by omega
    exact h
  have h2 : 2 ≤ m → ∀ f lv, DN x L (RF U f 2 lv i) := fun e => by
    by_cases e' : m = 2
    · exact e' ▸ h
    · obtain rfl : m = 3 := by omega
      exact upF12 h hL (hs.le (by omega) (by omega))
  by_cases e2 : m' = 2
  · subst e2; exact h2 hl
  have h1 : 1 ≤ m → ∀ f lv, DN x L (RF U f 1 lv i) := fun e => by
    by_cases e' : m = 1
    · exact e' ▸ h
    · exact upF01 (h2 (by omega)) hL (hs.le (by omega) (by omega))
  by_cases e1 : m' = 1
  · subst e1; exact h1 hl
  obtain rfl : m' = 0 := by omega
  by_cases e' : m = 0
  · exact e' ▸ h
  · exact upF00 (h1 (by omega)) hL hs
def RdF (U : List Tok) (t : Syn) : Prop :=
  ∀ m f lv i c B, m ≤ 3 → m ≤ lvl 2 t → Tl U i (ktf t ++ c :: B) → stopF m c → DN t (i + (ktf t).length) (RF U f m lv i)
theorem operF {b : Bool} {m : Nat} (h : RdF U x) (hm : m ≤ 3) (hb : b = false → m ≤ lvl 2 x) (h0 : Tl U i (parK b (ktf x) ++ c :: B)) (hs : stopF m c) :
    ∀ f lv, DN x (i + (parK b (ktf x)).length) (RF U f m lv i) := by
  cases b with
  | false => exact fun f lv => h m f lv i c B hm (hb rfl) h0 hs
  | true =>
    have h0' : Tl U i ((2, [40]) :: (ktf x ++ (2, [41]) :: c :: B)) := by simpa [parK] using h0
    have h1 := tl_next h0'
    have h2 := tl_drop (A := ktf x) h1
    have hlen : i + (parK true (ktf x)).length = i + 1 + (ktf x).length + 1 := by simp [parK]; omega
    rw [hlen]
    refine upF (m := 3) (Nat.le_refl _) hm (fun f lv => ?_) (tl_next h2) hs
    cases f with
    | zero => trivial
    | succ f =>
      show DN x _ (rd reservedB U (f + 1) .lit lv i)
      rw [lit_paren h0']
      exact dn_parens h0' (tl_lt' h1) (h 0 f (lv + 1) (i + 1) _ _ (by omega) (Nat.zero_le _) h1 stopF_41) h2
def opsF (p : Nat) : List (List UInt8) := if p = 1 then [kOr] else [kAnd]
def SpF (U : List Tok) (t : Syn) : Prop :=
  ∀ p f lv i c B, 1 ≤ p → p ≤ 2 → p ≤ lvl 2 t → Tl U i (ktf t ++ c :: B) → stopF (p + 1) c → SP U (RF U f (p + 1)) (opsF p) lv i t (i + (ktf t).length)
theorem spF_of (h : RdF U x) (hl : 3 ≤ lvl 2 x) : SpF U x := fun p f lv i c B _ hp hle h0 hs => sp_of (h (p + 1) f lv i c B (by omega) (by omega) h0 hs)
theorem stop_opF {p : Nat} (h : (p = 1 ∧ t = kOr) ∨ (p = 2 ∧ t = kAnd)) : stopF (p + 1) (0, t) := by
  rcases h with ⟨rfl, rfl⟩ | ⟨rfl, rfl⟩ <;> (unfold stopF goF noOp; decide)
theorem lvl_binF {n p : Int} {ks : List Syn} {o l r : Nat} (h : opP 2 t = some (o, l, r)) : lvl 2 (.mk 11 t n p ks) = o := by simp [lvl, Syn.kind, Syn.text, own, h]
theorem lft_ofF {o l r : Nat} (h : opP 2 t = some (o, l, r)) : lft 2 t = l ∧ rgt 2 t = r := by simp [lft, rgt, h]
theorem bin_rowF {p : Nat} {n q : Int} (hp : (p = 1 ∧ t = kOr) ∨ (p = 2 ∧ t = kAnd)) (ho : opP 2 t = some (p, p, p + 1)) (hn : n = 0)
    (ha : RdF U a ∧ SpF U a) (hb : RdF U b) : RdF U (.mk 11 t n q [a, b]) ∧ SpF U (.mk 11 t n q [a, b]) := by
  have hp' : 1 ≤ p ∧ p ≤ 2 := by rcases hp with ⟨h, -⟩ | ⟨h, -⟩ <;> omega
  have hlvl : lvl 2 (.mk 11 t n q [a, b]) = p := lvl_binF ho
  have hkt : ktf (.mk 11 t n q [a, b]) = parK (decide (lvl 2 a < p)) (ktf a) ++ (0, t) :: parK (decide (lvl 2 b < p + 1)) (ktf b) := by
    rw [ktf, if_neg (by decide), (lft_ofF ho).1, (lft_ofF ho).2]
  have core : ∀ f lv i c B, Tl U i (ktf (.mk 11 t n q [a, b]) ++ c :: B) → stopF (p + 1) c →
      SP U (RF U f (p + 1)) (opsF p) lv i (.mk 11 t n q [a, b]) (i + (ktf (.mk 11 t n q [a, b])).length) := by
    intro f lv i c B h0 hs
    rw [hkt, List.append_assoc, List.cons_append] at h0
    have h1 := tl_drop h0
    obtain ⟨d, K, hdK⟩ := cons_of (A := parK (decide (lvl 2 b < p + 1)) (ktf b)) (c := c) (B := B)
    have hl : SP U (RF U f (p + 1)) (opsF p) lv i a (i + (parK (decide (lvl 2 a < p)) (ktf a)).length) := by
      cases hbl : decide (lvl 2 a < p) with
      | true =>
        rw [hbl] at h0
        exact sp_of (operF (b := true) ha.1 (by omega) (fun h => by cases h) h0 (stop_opF hp) f lv)
      | false =>
        rw [hbl] at h0
        simp only [decide_eq_false_iff_not] at hbl
        exact ha.2 p f lv i _ _ hp'.1 hp'.2 (by omega) h0 (stop_opF hp)
    have h1' := h1
    rw [hdK] at h1'
    have hr := operF (b := decide (lvl 2 b < p + 1)) hb (m := p + 1) (by omega) (fun h => by simpa using h) (tl_next h1) hs f lv
    have := sp_step (p := q) hl h1' (.inr rfl) (by rcases hp with ⟨rfl, rfl⟩ | ⟨rfl, rfl⟩ <;> simp [opsF]) hr
    rw [hkt, hn]
    have e : i + (parK (decide (lvl 2 a < p)) (ktf a) ++ (0, t) :: parK (decide (lvl 2 b < p + 1)) (ktf b)).length = i + (parK (decide (lvl 2 a < p)) (ktf a)).length + 1 + (parK (decide (lvl 2 b < p + 1)) (ktf b)).length := by
      simp only [List.length_append, List.length_cons]; omega
    rw [e]
    exact this
  have rdp : ∀ f lv i c B, Tl U i (ktf (.mk 11 t n q [a, b]) ++ c :: B) → stopF p c → DN (.mk 11 t n q [a, b]) (i + (ktf (.mk 11 t n q [a, b])).length) (RF U f p lv i) := by
    intro f lv i c B h0 hs
    cases f with
    | zero => trivial
    | succ f =>
      have h1 := sp_end (core f lv i c B h0 (hs.le (by omega) (by omega))) (noOp.isW (tl_drop h0) (hs _ (by rcases hp with ⟨rfl, rfl⟩ | ⟨rfl, rfl⟩ <;> simp [goF, opsF])))
      rcases hp with ⟨rfl, -⟩ | ⟨rfl, -⟩ <;> exact h1
  have hrd : RdF U (.mk 11 t n q [a, b]) := by
    intro m f lv i c B hm hle h0 hs
    rw [hlvl] at hle
    exact upF (by omega) hle (fun f lv => rdp f lv i c B h0 (hs.le (by omega) hle)) (tl_drop h0) hs f lv
  refine ⟨hrd, fun p' f lv i c B hp0 hp1 hle h0 hs => ?_⟩
  rw [hlvl] at hle
  by_cases e : p' = p
  · subst e; exact core f lv i c B h0 hs
  · exact sp_of (hrd (p' + 1) f lv i c B (by omega) (by rw [hlvl]; omega) h0 hs)
theorem lit_not {K : List KT} (h0 : Tl U i ((0, kNot) :: c :: K)) : rd reservedB U (f + 1) .lit lv i = notR U (rd reservedB U f .lit) lv i := by
  rw [rd]
  dsimp only
  rw [if_pos (isW_T h0 (by decide))]
theorem lit_true {K : List KT} (h0 : Tl U i ((0, kTrue) :: c :: K)) : rd reservedB U (f + 1) .lit lv i = .ok (.mk 10 kTrue 0 (tk U i).pos []) (i + 1) := by
  rw [rd]
  dsimp only
  rw [if_neg (isW_F h0 (by decide)), if_pos (isW_T h0 (by decide)), tl_text h0, tl_nx h0]
theorem lit_two {K : List KT} (h0 : Tl U i ((0, t) :: c :: K)) (ht : t ∈ ftwo) : rd reservedB U (f + 1) .lit lv i = arguments U (tk U i) [fun _ => number U, fun _ => number U] lv (i + 1) := by
  have hf : ∀ ws, ws = [kNot] ∨ ws = [kTrue] ∨ ws = [[40]] → ¬ isW U ws i = true := fun ws hw => isW_F h0 (by
    simp only [ftwo, List.mem_cons, List.not_mem_nil, or_false] at ht
    rcases hw with rfl | rfl | rfl <;> rcases ht with rfl | rfl | rfl <;> decide)
  rw [rd]
  dsimp only
  rw [if_neg (hf _ (by simp)), if_neg (hf _ (by simp)), if_neg (hf _ (by simp)), if_pos (isW_T h0 (by simpa using ht)), tl_nx h0]
theorem lit_one {K : List KT} (h0 : Tl U i ((0, t) :: c :: K)) (ht : t ∈ fone) : rd reservedB U (f + 1) .lit lv i = arguments U (tk U i) [fun _ => number U] lv (i + 1) := by
  have hf : ∀ ws, ws = [kNot] ∨ ws = [kTrue] ∨ ws = [[40]] ∨ ws = ftwo → ¬ isW U ws i = true := fun ws hw => isW_F h0 (by
    simp only [fone, List.mem_cons, List.not_mem_nil, or_false] at ht
    rcases hw with rfl | rfl | rfl | rfl <;> rcases ht with rfl | rfl | rfl <;> decide)
  rw [rd]
  dsimp only
  rw [if_neg (hf _ (by simp)), if_neg (hf _ (by simp)), if_neg (hf _ (by simp)), if_neg (hf _ (by simp)), if_pos (isW_T h0 (by simpa using ht)), tl_nx h0]
theorem lit_K {K : List KT} (h0 : Tl U i ((0, [75]) :: c :: K)) : rd reservedB U (f + 1) .lit lv i = arguments U (tk U i) [fun _ => number U, rd reservedB U f .formula] lv (i + 1) := by
  rw [rd]
  dsimp only
  rw [if_neg (isW_F h0 (by decide)), if_neg (isW_F h0 (by decide)), if_neg (isW_F h0 (by decide)), if_neg (isW_F h0 (by decide)), if_neg (isW_F h0 (by decide)), if_pos (isW_T h0 (by decide)), tl_nx h0]
theorem lit_set {K : List KT} (h0 : Tl U i ((0, t) :: c :: K)) (ht : t ∈ fset) : rd reservedB U (f + 1) .lit lv i = arguments U (tk U i) [fun _ => setR U, rd reservedB U f .formula] lv (i + 1) := by
  have hf : ∀ ws, ws = [kNot] ∨ ws = [kTrue] ∨ ws = [[40]] ∨ ws = ftwo ∨ ws = fone ∨ ws = [[75]] → ¬ isW U ws i = true := fun ws hw => isW_F h0 (by
    simp only [fset, List.mem_cons, List.not_mem_nil, or_false] at ht
    rcases hw with rfl | rfl | rfl | rfl | rfl | rfl <;> rcases ht with rfl | rfl | rfl <;> decide)
  rw [rd]
  dsimp only
  rw [if_neg (hf _ (by simp)), if_neg (hf _ (by simp)), if_neg (hf _ (by simp)), if_neg (hf _ (by simp)), if_neg (hf _ (by simp)), if_neg (hf _ (by simp)), if_pos (isW_T h0 (by simpa using ht)), tl_nx h0]
theorem lit_tim {K : List KT} (h0 : Tl U i ((0, t) :: c :: K)) (ht : t ∈ ftim) : rd reservedB U (f + 1) .lit lv i = arguments U (tk U i) [rd reservedB U f .formula] lv (i + 1) := by
  have hf : ∀ ws, ws = [kNot] ∨ ws = [kTrue] ∨ ws = [[40]] ∨ ws = ftwo ∨ ws = fone ∨ ws = [[75]] ∨ ws = fset → ¬ isW U ws i = true := fun ws hw => isW_F h0 (by
    simp only [ftim, List.mem_cons, List.not_mem_nil, or_false] at ht
    rcases hw with rfl | rfl | rfl | rfl | rfl | rfl | rfl <;> rcases ht with rfl | rfl | rfl <;> decide)
  rw [rd]
  dsimp only
  rw [if_neg (hf _ (by simp)), if_neg (hf _ (by simp)), if_neg (hf _ (by simp)), if_neg (hf _ (by simp)), if_neg (hf _ (by simp)), if_neg (hf _ (by simp)), if_neg (hf _ (by simp)), if_pos (isW_T h0 (by simpa using ht)), tl_nx h0]
theorem num_twin {x : Syn} (h : isNum x = true) (q : Int) : Twin Any x (.mk 9 [] (dv 0 (dec x.num.toNat) : Nat) q []) := by
  obtain ⟨n, p, rfl, h1, -⟩ := num_shape h
  rw [dec_dv, show (((Syn.mk 9 [] n p []).num.toNat : Nat) : Int) = n by show ((n.toNat : Nat) : Int) = n; omega]
  exact .mk trivial .nil
theorem set_tail : ∀ (ks : List Syn) (xs : List Syn) (i g : Nat) (c : KT) (B : List KT), (∀ x ∈ ks, isNum x = true) → Tl U i (tailK ks ++ (2, [125]) :: c :: B) →
    setLoop U g xs i = .none ∨ ∃ ys, TwinL Any ks ys ∧ setLoop U g xs i = .ok (xs ++ ys) (i + (tailK ks).length)
  | _, _, _, 0, _, _, _, _ => .inl rfl
  | [], xs, i, g + 1, c, B, _, h0 => by
    refine .inr ⟨[], .nil, ?_⟩
    have h0' : Tl U i ((2, [125]) :: c :: B) := h0
    rw [setLoop, if_neg (isW_F h0' (by decide)), List.append_nil]; rfl
  | x :: r, xs, i, g + 1, c, B, h, h0 => by
    have h0' : Tl U i ((2, [44]) :: (1, dec x.num.toNat) :: (tailK r ++ (2, [125]) :: c :: B)) := by simpa [tailK] using h0
    have h1 := tl_next h0'
    have h2 := tl_next h1
    obtain ⟨d, K, hdK⟩ := cons_of (A := tailK r) (c := (2, [125])) (B := c :: B)
    have h1' := h1
    rw [hdK] at h1'
    rw [setLoop, if_pos (isW_T h0' (by decide)), tl_nx h0', tl_number h1', bind_okk]
    rcases set_tail r (xs ++ [.mk 9 [] (dv 0 (dec x.num.toNat) : Nat) (tk U (i + 1)).pos []]) (i + 1 + 1) g c B (fun y hy => h y (List.mem_cons_of_mem _ hy)) h2 with h3 | ⟨ys, h3, h4⟩
    · exact .inl h3
    · refine .inr ⟨_ :: ys, .cons (num_twin (h x (List.mem_cons_self ..)) (tk U (i + 1)).pos) h3, ?_⟩
      rw [h4, List.append_assoc, List.singleton_append]
      have : (tailK (x :: r)).length = 2 + (tailK r).length := by simp [tailK]; omega
      rw [this, ← Nat.add_assoc]
theorem twin_parts {k : Int} {t : List UInt8} {n q : Int} {ks : List Syn} (h1 : x.kind = k) (h2 : x.text = t) (h3 : x.num = n) (h4 : TwinL Any x.kids ks) : Twin Any x (.mk k t n q ks) := by
  cases x
  subst h1 h2 h3
  exact .mk trivial h4
theorem dn_setR (h : isSet x = true) (h0 : Tl U i (kta x ++ c :: B)) : DN x (i + (kta x).length) (setR U i) := by
  obtain ⟨h1, h2, h3⟩ := set_parts h
  unfold kta at h0 ⊢
  rw [if_neg (by omega)] at h0 ⊢
  unfold setR
  rcases h3 with ⟨h3, h4⟩ | ⟨h3, h4⟩
  · rw [if_neg (by rw [h3]; decide), h3] at h0 ⊢
    have h0' : Tl U i ((0, kEvery) :: c :: B) := h0
    rw [if_pos (isW_T h0' (by decide)), tl_text h0', tl_nx h0']
    exact dn_ok (twin_parts h1 h3 h2 (by rw [h4]; exact .nil))
  · rw [if_pos h3] at h0 ⊢
    unfold ksetK at h0 ⊢
    cases hks : x.kids with
    | nil =>
      rw [hks] at h0
      have h0' : Tl U i ((2, [123]) :: (2, [125]) :: c :: B) := h0
      have t1 := tl_next h0'
      rw [if_neg (isW_F h0' (by decide)), tl_need h0' (.inl rfl), bind_okk, if_pos (isW_T t1 (by decide)), tl_nx t1]
      exact dn_ok (twin_parts h1 h3 h2 (by rw [hks]; exact .nil))
    | cons y r =>
      rw [hks] at h0 h4
      have h0' : Tl U i ((2, [123]) :: (1, dec y.num.toNat) :: (tailK r ++ (2, [125]) :: c :: B)) := by simpa using h0
      have t1 := tl_next h0'
      have t2 := tl_next t1
      have t3 := tl_drop t2
      obtain ⟨d, K, hdK⟩ := cons_of (A := tailK r) (c := (2, [125])) (B := c :: B)
      have t1' := t1
      rw [hdK] at t1'
      rw [if_neg (isW_F h0' (by decide)), tl_need h0' (.inl rfl), bind_okk, if_neg (isW_F t1' (by show (_ && _) = false; rfl)), tl_number t1', bind_okk]
      rcases set_tail r [.mk 9 [] (dv 0 (dec y.num.toNat) : Nat) (tk U (i + 1)).pos []] (i + 1 + 1) (U.length + 1) c B (fun z hz => h4 z (List.mem_cons_of_mem _ hz)) t2 with h5 | ⟨ys, h5, h6⟩
      · rw [h5]; trivial
      · rw [h6, bind_okk, tl_need t3 (.inl rfl), bind_okk]
        have e : i + ((2, [123]) :: ((1, dec y.num.toNat) :: tailK r ++ [(2, [125])])).length = i + 1 + 1 + (tailK r).length + 1 := by simp only [List.length_cons, List.length_append, List.length_nil]; omega
        refine e ▸ dn_ok (twin_parts h1 h3 h2 ?_)
        rw [hks]
        exact .cons (num_twin (h4 y (List.mem_cons_self ..)) _) h5
theorem dn_numA (h : isNum x = true) (h0 : Tl U i (kta x ++ c :: B)) : DN x (i + (kta x).length) (number U i) := by
  unfold kta at h0 ⊢
  rw [if_pos (num_parts h).1] at h0 ⊢
  have h0' : Tl U i ((1, dec x.num.toNat) :: c :: B) := h0
  rw [tl_number h0']
  exact dn_ok (num_twin h _)
theorem rdf_lit {t : Syn} (hl : lvl 2 t = 5) (h : ∀ f lv i c B, Tl U i (ktf t ++ c :: B) → DN t (i + (ktf t).length) (rd reservedB U (f + 1) .lit lv i)) : RdF U t ∧ SpF U t := by
  have h1 : RdF U t := fun m f lv i c B hm hle h0 hs => by
    refine upF (m := 3) (Nat.le_refl _) hm (fun f lv => ?_) (tl_drop h0) hs f lv
    cases f with
    | zero => trivial
    | succ f => exact h f lv i c B h0
  exact ⟨h1, spF_of h1 (by omega)⟩
theorem main_f : ∀ t : Syn, okf t = true → RdF U t ∧ SpF U t
  | .mk k t n p [], h => by
    obtain ⟨hk, hn, ht⟩ := okf_nil h
    refine rdf_lit (by simp [lvl, Syn.kind, hk]) fun f lv i c B h0 => ?_
    rw [ktf, ht] at h0 ⊢
    rw [lit_true h0, hk, hn]
    exact dn_ok (.mk trivial .nil)
  | .mk k t n p [a], h => by
    obtain ⟨hn, h'⟩ := okf_one h
    rcases h' with ⟨hk, ht, ha⟩ | ⟨hk, h'⟩
    · have ia := (main_f a ha).1
      refine rdf_lit (by simp [lvl, Syn.kind, hk]) fun f lv i c B h0 => ?_
      rw [ktf, if_pos hk] at h0 ⊢
      obtain ⟨d, K, hdK⟩ := cons_of (A := parK (decide (lvl 2 a < 3)) (ktf a)) (c := c) (B := B)
      have h0' := h0
      rw [List.cons_append, hdK] at h0'
      rw [lit_not h0']
      unfold notR
      rw [tl_nx h0', List.length_cons, ← Nat.add_assoc, Nat.add_right_comm]
      refine (dn_within (operF (m := 3) ia (Nat.le_refl _) (fun h => by simpa using h) (tl_next h0) (by unfold stopF goF; simp) f (lv + 1))).bind fun y hy => ?_
      rw [hk, ht, hn]
      exact dn_ok (.mk trivial (.cons hy .nil))
    · refine rdf_lit (by simp [lvl, Syn.kind, hk]) fun f lv i c B h0 => ?_
      rcases h' with ⟨ht, ha⟩ | ⟨ht, ha⟩
      · have hc : fone.contains t = true := by simpa using ht
        rw [ktf, if_neg (by omega), if_pos hc] at h0 ⊢
        have h0' : Tl U i ((0, t) :: (2, [40]) :: (kta a ++ (2, [41]) :: c :: B)) := by simpa using h0
        have h1 := tl_next h0'
        have h2 := tl_next h1
        have e : i + ((0, t) :: (2, [40]) :: (kta a ++ [(2, [41])])).length = i + 1 + 1 + (kta a).length + 1 := by simp only [List.length_cons, List.length_append, List.length_nil]; omega
        rw [e, hk, lit_one h0' ht]
        exact dn_args1 (by rw [tl_text h0']) hn h1 (tl_lt' h2) (dn_numA ha h2) (tl_drop h2)
      · have hc : fone.contains t = false := by
          clear h
          simp only [ftim, List.mem_cons, List.not_mem_nil, or_false] at ht
          rcases ht with rfl | rfl | rfl <;> decide
        rw [ktf, if_neg (by omega), if_neg (by rw [hc]; decide)] at h0 ⊢
        have h0' : Tl U i ((0, t) :: (2, [40]) :: (ktf a ++ (2, [41]) :: c :: B)) := by simpa using h0
        have h1 := tl_next h0'
        have h2 := tl_next h1
        have e : i + ((0, t) :: (2, [40]) :: (ktf a ++ [(2, [41])])).length = i + 1 + 1 + (ktf a).length + 1 := by simp only [List.length_cons, List.length_append, List.length_nil]; omega
        rw [e, hk, lit_tim h0' ht]
        exact dn_args1 (by rw [tl_text h0']) hn h1 (tl_lt' h2) ((main_f a ha).1 0 f (lv + 1) _ _ _ (by omega) (Nat.zero_le _) h2 stopF_41) (tl_drop h2)
  | .mk k t n p [a, b], h => by
    obtain ⟨hn, h'⟩ := okf_two h
    rcases h' with ⟨hk, h'⟩ | ⟨hk, ha, hb, h'⟩
    · refine rdf_lit (by simp [lvl, Syn.kind, hk]) fun f lv i c B h0 => ?_
      have two : ∀ (kb : List KT) (r r' : Rd), Tl U i (((0, t) :: (2, [40]) :: (kta a ++ (2, [44]) :: (kb ++ [(2, [41])]))) ++ c :: B) → rd reservedB U (f + 1) .lit lv i = arguments U (tk U i) [r, r'] lv (i + 1) →
          (∀ c B, Tl U (i + 1 + 1) (kta a ++ c :: B) → DN a (i + 1 + 1 + (kta a).length) (r (lv + 1) (i + 1 + 1))) →
          (∀ B j, Tl U j (kb ++ (2, [41]) :: B) → DN b (j + kb.length) (r' (lv + 1) j)) →
          DN (.mk k t n p [a, b]) (i + ((0, t) :: (2, [40]) :: (kta a ++ (2, [44]) :: (kb ++ [(2, [41])]))).length) (rd reservedB U (f + 1) .lit lv i) := by
        intro kb r r' h0 he hr hr'
        have h0' : Tl U i ((0, t) :: (2, [40]) :: (kta a ++ (2, [44]) :: (kb ++ (2, [41]) :: c :: B))) := by simpa using h0
        have h1 := tl_next h0'
        have h2 := tl_next h1
        have h3 := tl_drop h2
        have h4 := tl_next h3
        have e : i + ((0, t) :: (2, [40]) :: (kta a ++ (2, [44]) :: (kb ++ [(2, [41])]))).length = i + 1 + 1 + (kta a).length + 1 + kb.length + 1 := by simp only [List.length_cons, List.length_append, List.length_nil]; omega
        rw [e, he, hk]
        exact dn_args2 (by rw [tl_text h0']) hn h1 (tl_lt' h2) (hr _ _ h2) h3 (tl_lt' h4) (hr' _ _ h4) (tl_drop h4)
      have hd2 : ∀ K, Tl U i (((0, t) :: (2, [40]) :: K) ++ c :: B) → Tl U i ((0, t) :: (2, [40]) :: (K ++ c :: B)) := fun K h => h
      rcases h' with ⟨ht, ha, hb⟩ | ⟨ht, ha, hb⟩ | ⟨ht, ha, hb⟩
      · have hc : ftwo.contains t = true := by simpa using ht
        rw [ktf, if_pos hk, if_pos hc] at h0 ⊢
        exact two _ _ _ h0 (lit_two (hd2 _ h0) ht) (fun c B h => dn_numA ha h) (fun B j h => dn_numA hb h)
      · have hc : ftwo.contains t = false := by clear h; subst ht; decide
        rw [ktf, if_pos hk, if_neg (by rw [hc]; decide)] at h0 ⊢
        exact two _ _ _ h0 (lit_K (ht ▸ hd2 _ h0)) (fun c B h => dn_numA ha h) (fun B j h => (main_f b hb).1 0 f (lv + 1) _ _ _ (by omega) (Nat.zero_le _) h stopF_41)
      · have hc : ftwo.contains t = false := by
          clear h
          simp only [fset, List.mem_cons, List.not_mem_nil, or_false] at ht
          rcases ht with rfl | rfl | rfl <;> decide
        rw [ktf, if_pos hk, if_neg (by rw [hc]; decide)] at h0 ⊢
        exact two _ _ _ h0 (lit_set (hd2 _ h0) ht) (fun c B h => dn_setR ha h) (fun B j h => (main_f b hb).1 0 f (lv + 1) _ _ _ (by omega) (Nat.zero_le _) h stopF_41)
    · have ia := main_f a ha
      have ib := main_f b hb
      rcases h' with ht | ht | ht
      · have ho : opP 2 t = some (0, 1, 0) := by rw [ht]; decide
        have hlvl : lvl 2 (.mk k t n p [a, b]) = 0 := by rw [hk]; exact lvl_binF ho
        have h1 : RdF U (.mk k t n p [a, b]) := fun m f lv i c B hm hle h0 hs => by
          rw [hlvl] at hle
          obtain rfl : m = 0 := by omega
          cases f with
          | zero => trivial
          | succ f =>
            show DN _ _ (rd reservedB U (f + 1) .formula lv i)
            rw [ktf, if_neg (by omega), (lft_ofF ho).1, (lft_ofF ho).2] at h0 ⊢
            rw [List.append_assoc, List.cons_append] at h0
            have t1 := tl_drop h0
            have t2 := tl_next t1
            obtain ⟨d, K, hdK⟩ := cons_of (A := parK (decide (lvl 2 b < 0)) (ktf b)) (c := c) (B := B)
            have t1' := t1
            rw [hdK] at t1'
            rw [rd]
            dsimp only
            refine (operF (m := 1) ia.1 (by omega) (fun h => by have := of_decide_eq_false h; omega) h0 (by rw [ht]; unfold stopF goF noOp; decide) f lv).bind fun y hy => ?_
            rw [if_pos (isW_T t1 (by rw [ht]; decide)), tl_nx t1']
            have e : i + (parK (decide (lvl 2 a < 1)) (ktf a) ++ (0, t) :: parK (decide (lvl 2 b < 0)) (ktf b)).length = i + (parK (decide (lvl 2 a < 1)) (ktf a)).length + 1 + (parK (decide (lvl 2 b < 0)) (ktf b)).length := by
              simp only [List.length_cons, List.length_append]; omega
            rw [e]
            refine (dn_within (operF (m := 0) ib.1 (by omega) (fun h => by omega) t2 hs f (lv + 1))).bind fun z hz => ?_
            rw [hk, hn, ht]
            exact dn_ok (.mk trivial (.cons hy (.cons hz .nil)))
        exact ⟨h1, fun p f lv i c B hp1 _ hle => by rw [hlvl] at hle; omega⟩
      · rw [hk]; exact bin_rowF (.inl ⟨rfl, ht⟩) (by rw [ht]; decide) hn ia ib.1
      · rw [hk]; exact bin_rowF (.inr ⟨rfl, ht⟩) (by rw [ht]; decide) hn ia ib.1
  | .mk _ _ _ _ (_ :: _ :: _ :: _), h => by simp [okf] at h
end
end Go.Proofs.YtplbfmcgddnkeaaGreatDoor
end
section
set_option maxHeartbeats 8000000
set_option maxRecDepth 100000
namespace Go.Proofs.YtplbfmcgddnkeaaGreatDoor
open Go.RowKit
theorem part_len {K k n a : Int} {tx : List UInt8} {ks : List Syn} (h : ¬ ks.length = 1) : partB K (.mk k tx n a ks) = false := by
  match ks, h with
  | [], _ => unfold partB; exact Bool.and_false _
  | [x], h => exact absurd rfl h
  | x :: y :: l, _ => unfold partB; exact Bool.and_false _
theorem prpart_any (K : Int) (t : Syn) (hM : Mod t) (q : Option Addr) (d : Nat) (w : World) (hg : SignsAt w) (hsp : SpaceAt w) (hks : KidR w t.kids (.slice q t.kids.length d)) :
    Calls Tryz.prog 144 #[nodeV t q d, .int .i64 K] w (VPost w (partB K t)) := by
  obtain ⟨k, tx, n, a, ks⟩ := t
  have hks : KidR w ks (.slice q ks.length d) := hks
  show Calls Tryz.prog 144 #[(Value.agg #[.int .i64 k, .string ⟨List.toArray tx⟩, .int .i64 n, .int .i64 a, .slice q ks.length d]), .int .i64 K] w (VPost w (partB K (.mk k tx n a ks)))
  obtain ⟨res, hres⟩ : ∃ r, Hid (r = partB K (.mk k tx n a ks)) := ⟨_, Lib.hid rfl⟩
  rw [← hres.out]
  have hA := fun W => pbare_any k tx n a q ks.length d W
  generalize hbr : ((tx == []) && decide (n = 0)) = br at hA
  have e2 : ((ks.length : Int) = 1) = (ks.length = 1) := by rw [eq_iff_iff]; omega
  replace hA := Lib.hid hA
  replace e2 := Lib.hid e2
  by_cases hL : ks.length = 1
  · obtain ⟨x, rfl⟩ := List.length_eq_one_iff.1 hL
    obtain ⟨b, o, q', d', rfl, hc, hkk⟩ := kid_at0 hks (by simp)
    simp only [List.getElem_cons_zero] at hc hkk
    have hMx : Mod x := hM.kid x (by simp [Syn.kids])
    have hS : ∀ W (hbW : Below w.heap.size w W), Calls Tryz.prog 56 #[.int .i64 0, nodeV x q' d'] W (VPost W (okP 0 x)) := fun W hbW => tree_valid x hMx 0 (by omega) q' d' W (signs_low hg hbW) (hsp.below hbW) (hkk.low hbW)
    replace hres := Lib.hid (hres.out.trans (show _ = (decide (k = K) && br && okP 0 x) from by
      rw [← hbr, ← Bool.and_assoc]; rfl))
    replace hS := Lib.hid hS
    replace hc := Lib.hid (fun W (h : Below w.heap.size w W) => kidC_low hc h)
    clear hks hkk hbr hM hMx hg hsp
    generalize okP 0 x = r0 at *
    simp only [List.length_singleton] at *
    have hB := boxed_below w k tx n a (some ⟨b, o, none⟩) 1 d
    have hC := boxed_new w k tx n a (some ⟨b, o, none⟩) 1 d
    unfold boxed at hB hC
    go_enter Tryz.func144, Tryz.ntmps144
    go_upto_region 1 with (fail)
    generalize World.alloc w _ = w1 at hB hC ⊢
    obtain ⟨c0, c1, c2, c3, c4⟩ := five hC
    replace hB := Lib.hid hB
    replace hC := Lib.hid hC
    by_cases hk : k = K
    · subst hk
      go_wp2_with fail
      (with_reducible refine (hA.out _).mono ?_)
      rintro e x2 ⟨rfl, b2⟩
      have f4 := cell_low c4 b2
      have hB2 := Lib.hid (hB.out.trans (b2.mono hB.out.size))
      obtain ⟨d0, d1, d2, d3, d4⟩ := hc.out x2 hB2.out
      clear c0 c1 c2 c3 c4
      cases br
      · go_wp2_with fail
        all_goals
          go_ret
          refine ⟨ret_b ?_, hB2.out⟩
          rw [hres.out]
          simp
      · go_wp2_with fail
        (with_reducible refine (hS.out _ hB2.out).mono ?_)
        rintro e x3 ⟨rfl, b3⟩
        go_wp2_with fail
        all_goals
          go_ret
          refine ⟨ret_b ?_, hB2.out.trans (b3.mono hB2.out.size)⟩
          rw [hres.out]
          simp
    · have hkb : (k == K) = false := by rw [beq_eq_false_iff_ne]; exact hk
      go_wp2_with fail
      all_goals
        go_ret
        refine ⟨ret_b ?_, hB.out⟩
        rw [hres.out]
        simp [hk]
  · have hpf := part_len (K := K) (k := k) (tx := tx) (n := n) (a := a) hL
    replace hres := Lib.hid (hres.out.trans hpf)
    clear hpf
    replace hL := show ¬ (ks.length : Int) = 1 by omega
    clear hks hbr hM hg hsp
    generalize ks.length = m at *
    have hB := boxed_below w k tx n a q m d
    have hC := boxed_new w k tx n a q m d
    unfold boxed at hB hC
    go_enter Tryz.func144, Tryz.ntmps144
    go_upto_region 1 with (fail)
    generalize World.alloc w _ = w1 at hB hC ⊢
    obtain ⟨c0, c1, c2, c3, c4⟩ := five hC
    replace hB := Lib.hid hB
    replace hC := Lib.hid hC
    by_cases hk : k = K
    · subst hk
      go_wp2_with fail
      (with_reducible refine (hA.out _).mono ?_)
      rintro e x2 ⟨rfl, b2⟩
      have f4 := cell_low c4 b2
      have hB2 := Lib.hid (hB.out.trans (b2.mono hB.out.size))
      clear c0 c1 c2 c3 c4
      cases br
      all_goals
        go_wp2_with fail
        all_goals
          go_ret
          refine ⟨ret_b ?_, hB2.out⟩
          rw [hres.out]
    · have hkb : (k == K) = false := by rw [beq_eq_false_iff_ne]; exact hk
      go_wp2_with fail
      all_goals
        go_ret
        refine ⟨ret_b ?_, hB.out⟩
        rw [hres.out]
end Go.Proofs.YtplbfmcgddnkeaaGreatDoor
end
