/- Joined: WpC, WpD, WpE. -/
import Derived.Test.YtplbfmcgddnkeaaGreatDoorK18
set_option linter.unusedVariables false
set_option linter.unusedSimpArgs false
section
namespace Go.Proofs.YtplbfmcgddnkeaaGreatDoor
def sepd (y : List UInt8) : Prop := ∀ b r, y = b :: r → isWordy b.toNat = false ∧ b ≠ 61
theorem sepd.fits {y x : List UInt8} (h : sepd y) : fits x y := fun c hc => by
  cases y with
  | nil => cases hc
  | cons b r =>
    obtain rfl : b = c := by simpa using hc
    exact ⟨fun _ => (h b r rfl).1, fun e => (h b r rfl).2 e.2⟩
theorem sepd_nil : sepd [] := fun _ _ h => by cases h
theorem sepd_cons {b : UInt8} {r : List UInt8} (h1 : isWordy b.toNat = false) (h2 : b ≠ 61) : sepd (b :: r) := fun _ _ h => by injection h with h _; subst h; exact ⟨h1, h2⟩
def Spl (s : List UInt8) (K : List KT) : Prop := ∀ y B, sepd y → Lx y B → Lx (s ++ y) (K ++ B)
theorem spl_tok {s : List UInt8} {k : Nat} (h : tok s = .ok (k, s.length)) : Spl s [((k : Int), s)] := fun _ _ hs hy => lx_tok h hs.fits hy
theorem spl_sign {b : UInt8} (hb : b = 40 ∨ b = 41 ∨ b = 59 ∨ b = 44 ∨ b = 58 ∨ b = 123 ∨ b = 125) : Spl [b] [(2, [b])] := fun _ _ _ hy => lx_sign hb hy
theorem Spl.then {s t : List UInt8} {K J : List KT} (h : Spl s K) (h' : Spl t J) (ht : ∀ y, sepd y → sepd (t ++ y)) : Spl (s ++ t) (K ++ J) := fun y B hs hy => by
  rw [List.append_assoc, List.append_assoc]
  exact h _ _ (ht y hs) (h' _ _ hs hy)
theorem Spl.signed {t : List UInt8} {J : List KT} {b : UInt8} (hb : b = 40 ∨ b = 41 ∨ b = 59 ∨ b = 44 ∨ b = 58 ∨ b = 123 ∨ b = 125) (h : Spl t J) : Spl (b :: t) ((2, [b]) :: J) := fun _ _ hs hy => lx_sign hb (h _ _ hs hy)
theorem Spl.blank {t : List UInt8} {J : List KT} (h : Spl t J) : Spl (32 :: t) J := fun _ _ hs hy => lx_blank (by decide) (h _ _ hs hy)
theorem spl_nil : Spl [] [] := fun _ _ _ hy => hy
theorem sepd_app {b : UInt8} {t : List UInt8} (h1 : isWordy b.toNat = false) (h2 : b ≠ 61) : ∀ y, sepd y → sepd (b :: t ++ y) := fun _ _ => sepd_cons h1 h2
theorem Spl.thenC {s t : List UInt8} {K J : List KT} {b : UInt8} (h : Spl s K) (h' : Spl (b :: t) J) (h1 : isWordy b.toNat = false := by decide) (h2 : b ≠ 61 := by decide) : Spl (s ++ b :: t) (K ++ J) := h.then h' (sepd_app h1 h2)
theorem spl_par {s : List UInt8} {K : List KT} {b : Bool} (h : Spl s K) : Spl (par b s) (parK b K) := by
  cases b
  · exact h
  · exact Spl.signed (.inl rfl) (h.thenC (spl_sign (.inr (.inl rfl))))
theorem nm_parts {x : Syn} (h : isNm x = true) : x.kind = 8 ∧ x.num = 0 ∧ x.kids = [] ∧ nameB x.text = true := by
  unfold isNm at h
  simp only [Bool.and_eq_true, decide_eq_true_eq, List.isEmpty_iff] at h
  exact ⟨h.1.1.1, h.1.1.2, h.1.2, h.2⟩
theorem num_parts {x : Syn} (h : isNum x = true) : x.kind = 9 ∧ x.text = [] ∧ (0 ≤ x.num ∧ x.num ≤ 1048576) ∧ x.kids = [] := by
  unfold isNum natB at h
  simp only [Bool.and_eq_true, decide_eq_true_eq, List.isEmpty_iff, beq_iff_eq] at h
  exact ⟨h.1.1.1, h.1.1.2, h.1.2, h.2⟩
def tokB (k : Nat) (s : List UInt8) : Bool := match tok s with | .ok (a, b) => a == k && b == s.length | .error _ => false
theorem tokIs {k : Nat} {s : List UInt8} (h : tokB k s = true) : tok s = .ok (k, s.length) := by
  unfold tokB at h
  split at h
  · rename_i a b e
    simp only [Bool.and_eq_true, beq_iff_eq] at h
    rw [e, h.1, h.2]
  · cases h
theorem spl_kw {s : List UInt8} (h : tokB 0 s = true := by decide) : Spl s [(0, s)] := spl_tok (tokIs h)
theorem opc_cases {t : List UInt8} (h : (opP 0 t).isSome = true) : t = kOr ∨ t = kAnd ∨ t ∈ cmps ∨ t ∈ sums := by
  unfold opP at h
  rw [if_pos rfl] at h
  by_cases h1 : t = kOr
  · exact .inl h1
  · by_cases h2 : t = kAnd
    · exact .inr (.inl h2)
    · by_cases h3 : t ∈ cmps
      · exact .inr (.inr (.inl h3))
      · by_cases h4 : t ∈ sums
        · exact .inr (.inr (.inr h4))
        · simp [h1, h2, h3, h4] at h
theorem spl_op {t : List UInt8} (h : (opP 0 t).isSome = true) : Spl t [opK t] := by
  rcases opc_cases h with rfl | rfl | h | h
  · exact spl_tok (tokIs (by decide))
  · exact spl_tok (tokIs (by decide))
  · simp only [cmps, List.mem_cons, List.not_mem_nil, or_false] at h
    rcases h with rfl | rfl | rfl | rfl <;> exact spl_tok (k := 2) (tokIs (by decide))
  · simp only [sums, List.mem_cons, List.not_mem_nil, or_false] at h
    rcases h with rfl | rfl <;> exact spl_tok (k := 2) (tokIs (by decide))
theorem okc_nil {k : Int} {t : List UInt8} {n p : Int} (h : okc (.mk k t n p []) = true) : (k = 9 ∧ t = [] ∧ 0 ≤ n ∧ n ≤ 1048576) ∨ (k = 8 ∧ n = 0 ∧ nameB t = true) := by
  rw [okc, Bool.or_eq_true] at h
  rcases h with h | h
  · exact .inl ⟨(num_parts h).1, (num_parts h).2.1, (num_parts h).2.2.1⟩
  · exact .inr ⟨(nm_parts h).1, (nm_parts h).2.1, (nm_parts h).2.2.2⟩
theorem okc_one {k : Int} {t : List UInt8} {n p : Int} {a : Syn} (h : okc (.mk k t n p [a]) = true) : okc a = true ∧ ((k = 12 ∧ t = [] ∧ n = 0) ∨ (k = 10 ∧ n = 0 ∧ (t = kIn ∨ t = kOut))) := by
  rw [okc] at h
  simp only [Bool.or_eq_true, Bool.and_eq_true, decide_eq_true_eq, beq_iff_eq] at h
  rcases h with ⟨⟨⟨h1, h2⟩, h3⟩, h4⟩ | ⟨⟨⟨h1, h2⟩, h3⟩, h4⟩
  · exact ⟨h4, .inl ⟨h1, h2, h3⟩⟩
  · exact ⟨h4, .inr ⟨h1, h2, h3⟩⟩
theorem okc_two {k : Int} {t : List UInt8} {n p : Int} {a b : Syn} (h : okc (.mk k t n p [a, b]) = true) :
    okc b = true ∧ n = 0 ∧ ((k = 13 ∧ (t = kAll ∨ t = kSome ∨ t = kCount) ∧ isNm a = true) ∨ (k = 10 ∧ t = kHears ∧ okc a = true) ∨ (k = 11 ∧ (opP 0 t).isSome = true ∧ okc a = true)) := by
  rw [okc] at h
  simp only [Bool.or_eq_true, Bool.and_eq_true, decide_eq_true_eq, beq_iff_eq] at h
  rcases h with (⟨⟨⟨⟨h1, h2⟩, h3⟩, h4⟩, h5⟩ | ⟨⟨⟨⟨h1, h2⟩, h3⟩, h4⟩, h5⟩) | ⟨⟨⟨⟨h1, h2⟩, h3⟩, h4⟩, h5⟩
  · exact ⟨h5, h3, .inl ⟨h1, by rcases h2 with (h | h) | h <;> simp [h], h4⟩⟩
  · exact ⟨h5, h2, .inr (.inl ⟨h1, h3, h4⟩)⟩
  · exact ⟨h5, h2, .inr (.inr ⟨h1, h3, h4⟩)⟩
theorem spl_c : ∀ t : Syn, okc t = true → Spl (wrc t) (ktc t)
  | .mk k t n p [], h => by
    rw [wrc, ktc]
    rcases okc_nil h with ⟨rfl, rfl, h1, h2⟩ | ⟨rfl, rfl, h1⟩
    · rw [if_pos rfl, if_pos rfl]
      exact spl_tok (k := 1) (dec_tok (by omega))
    · rw [if_neg (by decide), if_neg (by decide)]
      exact spl_tok (k := 0) (nameB_tok h1).1
  | .mk k t n p [a], h => by
    rw [wrc, ktc]
    obtain ⟨ha, h'⟩ := okc_one h
    have ia := spl_c a ha
    clear h
    rcases h' with ⟨rfl, rfl, rfl⟩ | ⟨rfl, rfl, h'⟩
    · rw [if_pos rfl, if_pos rfl]
      exact (spl_kw).thenC (spl_par ia).blank
    · rw [if_neg (by decide), if_neg (by decide)]
      have ht : tok t = .ok (0, t.length) := by rcases h' with rfl | rfl <;> exact tokIs (by decide)
      exact (spl_tok ht).thenC (Spl.signed (.inl rfl) ((spl_par ia).thenC (spl_sign (.inr (.inl rfl)))))
  | .mk k t n p [a, b], h => by
    rw [wrc, ktc]
    obtain ⟨hb, hn0, h'⟩ := okc_two h
    have ib := spl_c b hb
    clear h
    rcases h' with ⟨rfl, h', ha⟩ | ⟨rfl, rfl, ha⟩ | ⟨rfl, h', ha⟩
    · rw [if_pos rfl, if_pos rfl]
      have hn := spl_tok (k := 0) (nameB_tok (nm_parts ha).2.2.2).1
      have ht : tok t = .ok (0, t.length) := by rcases h' with rfl | rfl | rfl <;> exact tokIs (by decide)
      by_cases hc : t = kCount
      · rw [if_pos hc, if_pos hc]
        exact (spl_tok ht).thenC (hn.thenC (spl_par ib).blank).blank
      · rw [if_neg hc, if_neg hc]
        exact (spl_tok ht).thenC (hn.thenC (Spl.signed (by simp) ib.blank)).blank
    · rw [if_neg (by decide), if_pos rfl, if_neg (by decide), if_pos rfl]
      have ia := spl_c a ha
      exact (spl_kw).thenC (Spl.signed (.inl rfl) ((spl_par ia).thenC (Spl.signed (by simp) ((spl_par ib).thenC (spl_sign (.inr (.inl rfl)))).blank)))
    · rw [if_neg (by decide), if_neg (by decide), if_neg (by decide), if_neg (by decide)]
      have ia := spl_c a ha
      exact (spl_par ia).thenC ((spl_op h').thenC (spl_par ib).blank).blank
  | .mk _ _ _ _ (_ :: _ :: _ :: _), h => by simp [okc] at h
def ntc : Nat → NT | 0 => .cond | 1 => .conj | 2 => .neg | 4 => .sum | _ => .unit
def goC (m : Nat) : List (List (List UInt8)) := if m = 0 then [[kOr], [kAnd], cmps, sums] else if m = 1 then [[kAnd], cmps, sums] else if m = 2 then [cmps, sums] else if m = 4 then [sums] else []
def stopC (m : Nat) (c : KT) : Prop := ∀ ws ∈ goC m, noOp ws c
theorem stopC.le {m m' : Nat} {c : KT} (h : stopC m c) (hm : m = 0 ∨ m = 1 ∨ m = 2 ∨ m = 4 ∨ m = 5) (hm' : m' = 0 ∨ m' = 1 ∨ m' = 2 ∨ m' = 4 ∨ m' = 5) (hl : m ≤ m') : stopC m' c := fun ws hw => h ws (by
  rcases hm with rfl | rfl | rfl | rfl | rfl <;> rcases hm' with rfl | rfl | rfl | rfl | rfl <;> first | omega | (simp [goC] at hw; done) | exact hw | (simp [goC] at hw ⊢; first | done | exact hw | (subst hw; simp; done) | (rcases hw with rfl | rfl <;> simp; done) | (rcases hw with rfl | rfl | rfl <;> simp; done) | (rcases hw with rfl | rfl | rfl | rfl <;> simp; done)))
theorem stopC_41 {m : Nat} : stopC m (2, [41]) := by
  unfold stopC goC noOp
  split <;> (try split) <;> (try split) <;> (try split) <;> decide
theorem stopC_44 {m : Nat} : stopC m (2, [44]) := by
  unfold stopC goC noOp
  split <;> (try split) <;> (try split) <;> (try split) <;> decide
section
variable {U : List Tok} {f lv i L : Nat} {x : Syn} {A B : List KT} {c : KT}
abbrev R (U : List Tok) (f m : Nat) : Rd := rd reservedB U f (ntc m)
def okM (m : Nat) : Prop := m = 0 ∨ m = 1 ∨ m = 2 ∨ m = 4 ∨ m = 5
def calmK (c : KT) : Prop := noOp [kNot] c ∧ noOp [kAll, kSome] c
theorem up45 (h : ∀ f lv, DN x L (R U f 5 lv i)) (hL : Tl U L (c :: B)) (hs : stopC 4 c) : ∀ f lv, DN x L (R U f 4 lv i)
  | 0, _ => trivial
  | f + 1, lv => sp_end (r := R U f 5) (sp_of (h f lv)) (noOp.isW hL (hs sums (by simp [goC])))
theorem up24 (h : ∀ f lv, DN x L (R U f 4 lv i)) {d : KT} (h0 : Tl U i (d :: A)) (hd : calmK d) (hL : Tl U L (c :: B)) (hs : stopC 2 c) : ∀ f lv, DN x L (R U f 2 lv i)
  | 0, _ => trivial
  | f + 1, lv => by
    show DN x L (rd reservedB U (f + 1) .neg lv i)
    rw [rd]
    dsimp only
    rw [if_neg (hd.1.isW h0), if_neg (noOp.isW h0 hd.2)]
    refine (h f lv).bind fun y hy => ?_
    rw [if_neg (noOp.isW hL (hs cmps (by simp [goC])))]
    exact dn_ok hy
theorem up12 (h : ∀ f lv, DN x L (R U f 2 lv i)) (hL : Tl U L (c :: B)) (hs : stopC 1 c) : ∀ f lv, DN x L (R U f 1 lv i)
  | 0, _ => trivial
  | f + 1, lv => sp_end (r := R U f 2) (sp_of (h f lv)) (noOp.isW hL (hs [kAnd] (by simp [goC])))
theorem up01 (h : ∀ f lv, DN x L (R U f 1 lv i)) (hL : Tl U L (c :: B)) (hs : stopC 0 c) : ∀ f lv, DN x L (R U f 0 lv i)
  | 0, _ => trivial
  | f + 1, lv => sp_end (r := R U f 1) (sp_of (h f lv)) (noOp.isW hL (hs [kOr] (by simp [goC])))
theorem upC {m m' : Nat} (hm : okM m) (hm' : okM m') (hl : m' ≤ m) (h : ∀ f lv, DN x L (R U f m lv i)) (hd : 4 ≤ m → ∃ d A, Tl U i (d :: A) ∧ calmK d) (hL : Tl U L (c :: B)) (hs : stopC m' c) : ∀ f lv, DN x L (R U f m' lv i) := by
  have s4 : m' ≤ 4 → stopC 4 c := fun e => hs.le hm' (by simp) e
  have s2 : m' ≤ 2 → stopC 2 c := fun e => hs.le hm' (by simp) e
  have s1 : m' ≤ 1 → stopC 1 c := fun e => hs.le hm' (by simp) e
  by_cases e5 : m' = 5
  · obtain rfl : m = m' := by rcases hm with rfl | rfl | rfl | rfl | rfl <;> omega
    exact h
  have h4 : 4 ≤ m → ∀ f lv, DN x L (R U f 4 lv i) := fun e => by
    by_cases e' : m = 4
    · exact e' ▸ h
    · obtain rfl : m = 5 := by rcases hm with rfl | rfl | rfl | rfl | rfl <;> omega
      exact up45 h hL (s4 (by rcases hm' with rfl | rfl | rfl | rfl | rfl <;> omega))
  by_cases e4 : m' = 4
  · subst e4; exact h4 hl
  have m2 : m' ≤ 2 := by rcases hm' with rfl | rfl | rfl | rfl | rfl <;> omega
  have h2 : 2 ≤ m → ∀ f lv, DN x L (R U f 2 lv i) := fun e => by
    by_cases e' : m = 2
    · exact e' ▸ h
    · have e4 : 4 ≤ m := by rcases hm with rfl | rfl | rfl | rfl | rfl <;> omega
      obtain ⟨d, A, h0, hd⟩ := hd e4
      exact up24 (h4 e4) h0 hd hL (s2 m2)
  by_cases e2 : m' = 2
  · subst e2; exact h2 hl
  have h1 : 1 ≤ m → ∀ f lv, DN x L (R U f 1 lv i) := fun e => by
    by_cases e' : m = 1
    · exact e' ▸ h
    · exact up12 (h2 (by omega)) hL (s1 (by omega))
  by_cases e1 : m' = 1
  · subst e1; exact h1 hl
  obtain rfl : m' = 0 := by omega
  by_cases e' : m = 0
  · exact e' ▸ h
  · exact up01 (h1 (by omega)) hL hs
def RdC (U : List Tok) (t : Syn) : Prop :=
  ∀ m f lv i c B, okM m → m ≤ lvl 0 t → Tl U i (ktc t ++ c :: B) → stopC m c → (opn t = true → stopC 0 c) → DN t (i + (ktc t).length) (R U f m lv i)
theorem operC {b : Bool} {m : Nat} (h : RdC U x) (hm : okM m) (hb : b = false → m ≤ lvl 0 x) (h0 : Tl U i (parK b (ktc x) ++ c :: B)) (hs : stopC m c) (ho : b = false → opn x = true → stopC 0 c) :
    ∀ f lv, DN x (i + (parK b (ktc x)).length) (R U f m lv i) := by
  cases b with
  | false => exact fun f lv => h m f lv i c B hm (hb rfl) h0 hs (ho rfl)
  | true =>
    have h0' : Tl U i ((2, [40]) :: (ktc x ++ (2, [41]) :: c :: B)) := by simpa [parK] using h0
    have h1 := tl_next h0'
    have h2 := tl_drop (A := ktc x) h1
    have hlen : i + (parK true (ktc x)).length = i + 1 + (ktc x).length + 1 := by simp [parK]; omega
    rw [hlen]
    refine upC (m := 5) (by unfold okM; omega) hm (by rcases hm with rfl | rfl | rfl | rfl | rfl <;> omega) (fun f lv => ?_) (fun _ => ⟨_, _, h0', by unfold noOp; decide, by unfold noOp; decide⟩) (tl_next h2) hs
    cases f with
    | zero => trivial
    | succ f =>
      show DN x _ (rd reservedB U (f + 1) .unit lv i)
      rw [unit_paren h0']
      exact dn_parens h0' (tl_lt' h1) (h 0 f (lv + 1) (i + 1) _ _ (by unfold okM; omega) (Nat.zero_le _) h1 stopC_41 (fun _ => stopC_41)) h2
end
end Go.Proofs.YtplbfmcgddnkeaaGreatDoor
end
section
namespace Go.Proofs.YtplbfmcgddnkeaaGreatDoor
def nxt (p : Nat) : Nat := if p = 0 then 1 else if p = 1 then 2 else 5
def opsL (p : Nat) : List (List UInt8) := if p = 0 then [kOr] else if p = 1 then [kAnd] else sums
section
variable {U : List Tok} {f lv i j L M : Nat} {x y a b : Syn} {A B K : List KT} {c d : KT} {r r' : Rd} {w : Tok} {t : List UInt8}
theorem dn_args1 {n p : Int} (hw : w.text = t) (hn : n = 0) (h0 : Tl U j ((2, [40]) :: A)) (hj : j + 1 < U.length) (h : DN x L (r (lv + 1) (j + 1))) (h1 : Tl U L ((2, [41]) :: c :: B)) :
    DN (.mk 10 t n p [x]) (L + 1) (arguments U w [r] lv j) := by
  unfold arguments
  rw [tl_needL h0 (.inl rfl) hj, bind_okk]
  split
  · rfl
  · rw [argsGo, Out.bind_assoc]
    refine h.bind fun y hy => ?_
    rw [argsGo.argsMore, bind_okk, bind_okk, tl_need h1 (.inl rfl), bind_okk, hw, hn]
    exact dn_ok (.mk trivial (.cons hy .nil))
theorem dn_args2 {n p : Int} (hw : w.text = t) (hn : n = 0) (h0 : Tl U j ((2, [40]) :: A)) (hj : j + 1 < U.length) (h : DN x L (r (lv + 1) (j + 1))) (h1 : Tl U L ((2, [44]) :: K)) (hL : L + 1 < U.length) (h' : DN y M (r' (lv + 1) (L + 1)))
    (h2 : Tl U M ((2, [41]) :: c :: B)) : DN (.mk 10 t n p [x, y]) (M + 1) (arguments U w [r, r'] lv j) := by
  unfold arguments
  rw [tl_needL h0 (.inl rfl) hj, bind_okk]
  split
  · rfl
  · rw [argsGo, Out.bind_assoc]
    refine h.bind fun x' hx => ?_
    rw [argsGo.argsMore, tl_needL h1 (.inl rfl) hL, bind_okk, Out.bind_assoc, Out.bind_assoc]
    refine h'.bind fun y' hy => ?_
    rw [argsGo.argsMore, bind_okk, bind_okk, bind_okk, tl_need h2 (.inl rfl), bind_okk, hw, hn]
    exact dn_ok (.mk trivial (.cons hx (.cons hy .nil)))
theorem kw_no (h : Tl U i ((0, t) :: K)) (hr : reservedB t = false) {ws : List (List UInt8)} (hw : ∀ w ∈ ws, w ∈ kwTexts := by decide) : ¬ isW U ws i = true := isW_F h (by rw [not_kw hr ws hw]; rfl)
theorem name_not_sign (hn : nameB t = true) : t ≠ [40] ∧ t ≠ [123] := by
  constructor <;> (rintro rfl; revert hn; decide)
theorem sign_no (h : Tl U i ((0, t) :: K)) {s : List UInt8} (hs : t ≠ s) : ¬ isW U [s] i = true := isW_F h (by
  show (_ && List.contains [s] t) = false
  have : List.contains [s] t = false := by simpa using hs
  rw [this]; rfl)
theorem calm_name (hr : reservedB t = false) : calmK (0, t) := ⟨by unfold noOp; rw [not_kw hr _ (by decide)]; rfl, by unfold noOp; rw [not_kw hr _ (by decide)]; rfl⟩
theorem calm_lit {c : KT} (h : ((decide (c.1 = 2) || decide (c.1 = 0)) && List.contains [kNot] c.2) = false ∧ ((decide (c.1 = 2) || decide (c.1 = 0)) && List.contains [kAll, kSome] c.2) = false) : calmK c := h
theorem op_or : opP 0 kOr = some (0, 0, 1) := by decide
theorem op_and : opP 0 kAnd = some (1, 1, 2) := by decide
theorem op_cmp (h : t ∈ cmps) : opP 0 t = some (3, 4, 4) := by
  simp only [cmps, List.mem_cons, List.not_mem_nil, or_false] at h
  rcases h with rfl | rfl | rfl | rfl <;> decide
theorem op_sum (h : t ∈ sums) : opP 0 t = some (4, 4, 5) := by
  simp only [sums, List.mem_cons, List.not_mem_nil, or_false] at h
  rcases h with rfl | rfl <;> decide
theorem lvl_bin {n p : Int} {ks : List Syn} {o l r : Nat} (h : opP 0 t = some (o, l, r)) : lvl 0 (.mk 11 t n p ks) = o := by simp [lvl, Syn.kind, Syn.text, own, h]
theorem lft_of {o l r : Nat} (h : opP 0 t = some (o, l, r)) : lft 0 t = l ∧ rgt 0 t = r := by simp [lft, rgt, h]
theorem opn_high : ∀ t : Syn, okc t = true → 4 ≤ lvl 0 t → opn t = false
  | .mk k t n p [], h, _ => by
    rcases okc_nil h with ⟨rfl, -⟩ | ⟨rfl, -⟩ <;> simp [opn]
  | .mk k t n p [a], h, hl => by
    obtain ⟨ha, h'⟩ := okc_one h
    rcases h' with ⟨hk, -⟩ | ⟨hk, -⟩ <;> subst hk
    · simp [lvl, Syn.kind] at hl
    · simp [opn]
  | .mk k t n p [a, b], h, hl => by
    obtain ⟨hb, hn0, h'⟩ := okc_two h
    rcases h' with ⟨hk, h', ha⟩ | ⟨hk, ht, ha⟩ | ⟨hk, h', ha⟩ <;> subst hk
    · by_cases hc : t = kCount
      · simp [opn, hc]
      · simp [lvl, Syn.kind, Syn.text, hc] at hl
    · simp [opn]
    · rcases opc_cases h' with rfl | rfl | ho | ho
      · rw [lvl_bin op_or] at hl; omega
      · rw [lvl_bin op_and] at hl; omega
      · rw [lvl_bin (op_cmp ho)] at hl; omega
      · rw [opn, if_neg (by decide), (lft_of (op_sum ho)).2]
        by_cases h5 : 5 ≤ lvl 0 b
        · rw [opn_high b hb (by omega)]; simp
        · simp [h5]
  | .mk _ _ _ _ (_ :: _ :: _ :: _), h, _ => by simp [okc] at h
theorem head_par {b : Bool} (h : b = false → ∃ d A, ktc x = d :: A ∧ calmK d) : ∃ d A, parK b (ktc x) = d :: A ∧ calmK d := by
  cases b with
  | false => exact h rfl
  | true => exact ⟨_, _, rfl, calm_lit (by decide)⟩
theorem head_c : ∀ t : Syn, okc t = true → 4 ≤ lvl 0 t → ∃ d A, ktc t = d :: A ∧ calmK d
  | .mk k t n p [], h, _ => by
    rcases okc_nil h with ⟨rfl, -⟩ | ⟨rfl, -, h1⟩
    · exact ⟨_, _, by rw [ktc, if_pos rfl], calm_lit (by simp)⟩
    · exact ⟨_, _, by rw [ktc, if_neg (by decide)], calm_name (nameB_tok h1).2⟩
  | .mk k t n p [a], h, hl => by
    obtain ⟨ha, h'⟩ := okc_one h
    rcases h' with ⟨hk, -⟩ | ⟨hk, -, h'⟩ <;> subst hk
    · simp [lvl, Syn.kind] at hl
    · exact ⟨_, _, by rw [ktc, if_neg (by decide)], calm_lit (by rcases h' with rfl | rfl <;> decide)⟩
  | .mk k t n p [a, b], h, hl => by
    obtain ⟨hb, hn0, h'⟩ := okc_two h
    rcases h' with ⟨hk, h', ha⟩ | ⟨hk, ht, ha⟩ | ⟨hk, h', ha⟩ <;> subst hk
    · by_cases hc : t = kCount
      · exact ⟨_, _, by rw [ktc, if_pos rfl, if_pos hc], calm_lit (by rw [hc]; decide)⟩
      · simp [lvl, Syn.kind, Syn.text, hc] at hl
    · exact ⟨_, _, by rw [ktc, if_neg (by decide), if_pos rfl], calm_lit (by rw [ht]; decide)⟩
    · rcases opc_cases h' with rfl | rfl | ho | ho
      · rw [lvl_bin op_or] at hl; omega
      · rw [lvl_bin op_and] at hl; omega
      · rw [lvl_bin (op_cmp ho)] at hl; omega
      · rw [ktc, if_neg (by decide), if_neg (by decide), (lft_of (op_sum ho)).1]
        obtain ⟨d, A, e, hd⟩ := head_par (x := a) (b := looseB t a || decide (lvl 0 a < 4)) (fun hb => head_c a ha (by
          simp only [Bool.or_eq_false_iff, decide_eq_false_iff_not] at hb; omega))
        exact ⟨d, _, by rw [e]; rfl, hd⟩
  | .mk _ _ _ _ (_ :: _ :: _ :: _), h, _ => by simp [okc] at h
def SpC (U : List Tok) (t : Syn) : Prop :=
  ∀ p f lv i c B, (p = 0 ∨ p = 1 ∨ p = 4) → p ≤ lvl 0 t → Tl U i (ktc t ++ c :: B) → stopC (nxt p) c → (opn t = true → stopC 0 c) → SP U (R U f (nxt p)) (opsL p) lv i t (i + (ktc t).length)
theorem okM_nxt {p : Nat} (h : p = 0 ∨ p = 1 ∨ p = 4) : okM (nxt p) := by rcases h with rfl | rfl | rfl <;> (unfold okM nxt; decide)
theorem okM_p {p : Nat} (h : p = 0 ∨ p = 1 ∨ p = 4) : okM p := by rcases h with rfl | rfl | rfl <;> (unfold okM; decide)
theorem spC_of (h : RdC U x) (hl : lvl 0 x = 2 ∨ lvl 0 x = 3 ∨ lvl 0 x = 5) : SpC U x := fun p f lv i c B hp hle h0 hs ho =>
  sp_of (h (nxt p) f lv i c B (okM_nxt hp) (by rcases hp with rfl | rfl | rfl <;> (unfold nxt; simp; omega)) h0 hs ho)
theorem cons_of {A : List KT} : ∃ d K, A ++ c :: B = d :: K := by
  cases A with
  | nil => exact ⟨_, _, rfl⟩
  | cons a r => exact ⟨_, _, rfl⟩
theorem stop_op {p : Nat} (h : (p = 0 ∧ t = kOr) ∨ (p = 1 ∧ t = kAnd) ∨ (p = 4 ∧ t ∈ sums)) : stopC (nxt p) (opK t) := by
  rcases h with ⟨rfl, rfl⟩ | ⟨rfl, rfl⟩ | ⟨rfl, h⟩
  · unfold stopC goC nxt noOp; decide
  · unfold stopC goC nxt noOp; decide
  · simp only [sums, List.mem_cons, List.not_mem_nil, or_false] at h
    rcases h with rfl | rfl <;> (unfold stopC goC nxt noOp; decide)
theorem bin_row {p : Nat} {n q : Int} (hp : (p = 0 ∧ t = kOr) ∨ (p = 1 ∧ t = kAnd) ∨ (p = 4 ∧ t ∈ sums)) (ho : opP 0 t = some (p, p, nxt p)) (hn : n = 0) (hoa : okc a = true)
    (ha : RdC U a ∧ SpC U a) (hb : RdC U b) : RdC U (.mk 11 t n q [a, b]) ∧ SpC U (.mk 11 t n q [a, b]) := by
  have hp' : p = 0 ∨ p = 1 ∨ p = 4 := by rcases hp with ⟨h, -⟩ | ⟨h, -⟩ | ⟨h, -⟩ <;> simp [h]
  have hlvl : lvl 0 (.mk 11 t n q [a, b]) = p := lvl_bin ho
  have hkt : ktc (.mk 11 t n q [a, b]) = parK (looseB t a || decide (lvl 0 a < p)) (ktc a) ++ opK t :: parK (decide (lvl 0 b < nxt p)) (ktc b) := by
    rw [ktc, if_neg (by decide), if_neg (by decide), (lft_of ho).1, (lft_of ho).2]
  have hopn : opn (.mk 11 t n q [a, b]) = (decide (nxt p ≤ lvl 0 b) && opn b) := by rw [opn, if_neg (by decide), (lft_of ho).2]; simp
  have core : ∀ f lv i c B, Tl U i (ktc (.mk 11 t n q [a, b]) ++ c :: B) → stopC (nxt p) c → (opn (.mk 11 t n q [a, b]) = true → stopC 0 c) →
      SP U (R U f (nxt p)) (opsL p) lv i (.mk 11 t n q [a, b]) (i + (ktc (.mk 11 t n q [a, b])).length) := by
    intro f lv i c B h0 hs hop
    rw [hkt, List.append_assoc, List.cons_append] at h0
    have h1 := tl_drop h0
    obtain ⟨d, K, hdK⟩ := cons_of (A := parK (decide (lvl 0 b < nxt p)) (ktc b)) (c := c) (B := B)
    have hl : SP U (R U f (nxt p)) (opsL p) lv i a (i + (parK (looseB t a || decide (lvl 0 a < p)) (ktc a)).length) := by
      cases hbl : (looseB t a || decide (lvl 0 a < p)) with
      | true =>
        rw [hbl] at h0
        exact sp_of (operC (b := true) ha.1 (okM_nxt hp') (fun h => by cases h) h0 (stop_op hp) (fun h => by cases h) f lv)
      | false =>
        rw [hbl] at h0
        simp only [Bool.or_eq_false_iff, decide_eq_false_iff_not] at hbl
        refine ha.2 p f lv i _ _ hp' (by omega) h0 (stop_op hp) (fun h => ?_)
        rcases hp with ⟨-, rfl⟩ | ⟨-, rfl⟩ | ⟨rfl, -⟩
        · have := hbl.1; unfold looseB at this; rw [h] at this; simp at this
        · have := hbl.1; unfold looseB at this; rw [h] at this; simp at this
        · rw [opn_high a hoa (by omega)] at h; cases h
    have h1' := h1
    rw [hdK] at h1'
    have hkd : ∃ kd : Int, opK t = (kd, t) ∧ (kd = 2 ∨ kd = 0) := ⟨if t ∈ cmps ∨ t ∈ sums then 2 else 0, rfl, by split <;> simp⟩
    obtain ⟨kd, hk1, hk2⟩ := hkd
    rw [hk1] at h1'
    have hr := operC (b := decide (lvl 0 b < nxt p)) hb (okM_nxt hp') (fun h => by simpa using h) (tl_next h1) hs (fun h ho' => hop (by rw [hopn, ho']; simpa using h)) f lv
    have := sp_step (p := q) hl h1' hk2 (by rcases hp with ⟨rfl, rfl⟩ | ⟨rfl, rfl⟩ | ⟨rfl, h⟩ <;> simp [opsL]; simpa using h) hr
    rw [hkt, hn]
    have e : i + (parK (looseB t a || decide (lvl 0 a < p)) (ktc a) ++ opK t :: parK (decide (lvl 0 b < nxt p)) (ktc b)).length = i + (parK (looseB t a || decide (lvl 0 a < p)) (ktc a)).length + 1 + (parK (decide (lvl 0 b < nxt p)) (ktc b)).length := by
      simp only [List.length_append, List.length_cons]; omega
    rw [e]
    exact this
  have rdp : ∀ f lv i c B, Tl U i (ktc (.mk 11 t n q [a, b]) ++ c :: B) → stopC p c → (opn (.mk 11 t n q [a, b]) = true → stopC 0 c) → DN (.mk 11 t n q [a, b]) (i + (ktc (.mk 11 t n q [a, b])).length) (R U f p lv i) := by
    intro f lv i c B h0 hs hop
    cases f with
    | zero => trivial
    | succ f =>
      have hs' : stopC (nxt p) c := hs.le (okM_p hp') (okM_nxt hp') (by rcases hp' with rfl | rfl | rfl <;> (unfold nxt; simp))
      have h1 := sp_end (core f lv i c B h0 hs' hop) (noOp.isW (tl_drop h0) (hs _ (by rcases hp' with rfl | rfl | rfl <;> simp [goC, opsL])))
      rcases hp' with rfl | rfl | rfl <;> exact h1
  have hrd : RdC U (.mk 11 t n q [a, b]) := by
    intro m f lv i c B hm hle h0 hs hop
    rw [hlvl] at hle
    refine upC (okM_p hp') hm hle (fun f lv => rdp f lv i c B h0 (hs.le hm (okM_p hp') hle) hop) (fun h4 => ?_) (tl_drop h0) hs f lv
    obtain rfl : p = 4 := by omega
    rw [hkt] at h0
    obtain ⟨d, A, e, hd⟩ := head_par (x := a) (b := looseB t a || decide (lvl 0 a < 4)) (fun hb => head_c a hoa (by
      simp only [Bool.or_eq_false_iff, decide_eq_false_iff_not] at hb; omega))
    rw [e] at h0
    exact ⟨d, _, h0, hd⟩
  refine ⟨hrd, fun p' f lv i c B hp1 hle h0 hs hop => ?_⟩
  rw [hlvl] at hle
  by_cases e : p' = p
  · subst e; exact core f lv i c B h0 hs hop
  · exact sp_of (hrd (nxt p') f lv i c B (okM_nxt hp1) (by rw [hlvl]; rcases hp1 with rfl | rfl | rfl <;> rcases hp' with rfl | rfl | rfl <;> first | omega | (unfold nxt; simp)) h0 hs hop)
end
end Go.Proofs.YtplbfmcgddnkeaaGreatDoor
end
section
namespace Go.Proofs.YtplbfmcgddnkeaaGreatDoor
section
variable {U : List Tok}
theorem unit_num {f lv i : Nat} {w : List UInt8} {c : KT} {K : List KT} (h0 : Tl U i ((1, w) :: c :: K)) : rd reservedB U (f + 1) .unit lv i = .ok (.mk 9 [] (dv 0 w : Nat) (tk U i).pos []) (i + 1) := by
  rw [rd]
  dsimp only
  rw [if_pos (tl_kind h0)]
  exact tl_number h0
theorem unit_name {f lv i : Nat} {t : List UInt8} {c : KT} {K : List KT} (h0 : Tl U i ((0, t) :: c :: K)) (hn : nameB t = true) : rd reservedB U (f + 1) .unit lv i = .ok (.mk 8 t 0 (tk U i).pos []) (i + 1) := by
  have hr := (nameB_tok hn).2
  rw [rd]
  dsimp only
  rw [if_neg (by rw [tl_kind h0]; show ¬ (0 : Int) = 1; decide), if_neg (kw_no h0 hr), if_neg (kw_no h0 hr), if_neg (kw_no h0 hr), if_neg (sign_no h0 (name_not_sign hn).1)]
  exact tl_name h0 hr
theorem unit_one {f lv i : Nat} {t : List UInt8} {c : KT} {K : List KT} (h0 : Tl U i ((0, t) :: c :: K)) (ht : t = kIn ∨ t = kOut) : rd reservedB U (f + 1) .unit lv i = arguments U (tk U i) [rd reservedB U f .sum] lv (i + 1) := by
  rw [rd]
  dsimp only
  rw [if_neg (by rw [tl_kind h0]; show ¬ (0 : Int) = 1; decide), if_pos (isW_T h0 (by rcases ht with rfl | rfl <;> decide)), tl_nx h0]
theorem unit_two {f lv i : Nat} {c : KT} {K : List KT} (h0 : Tl U i ((0, kHears) :: c :: K)) : rd reservedB U (f + 1) .unit lv i = arguments U (tk U i) [rd reservedB U f .sum, rd reservedB U f .sum] lv (i + 1) := by
  rw [rd]
  dsimp only
  rw [if_neg (by rw [tl_kind h0]; show ¬ (0 : Int) = 1; decide), if_neg (isW_F h0 (by decide)), if_pos (isW_T h0 (by decide)), tl_nx h0]
theorem unit_count {f lv i : Nat} {c : KT} {K : List KT} (h0 : Tl U i ((0, kCount) :: c :: K)) : rd reservedB U (f + 1) .unit lv i = (name reservedB U (i + 1)).bind fun v j => (parens U (rd reservedB U f .cond) lv j).bind fun x j => .ok (.mk 13 (tk U i).text 0 (tk U i).pos [v, x]) j := by
  rw [rd]
  dsimp only
  rw [if_neg (by rw [tl_kind h0]; show ¬ (0 : Int) = 1; decide), if_neg (isW_F h0 (by decide)), if_neg (isW_F h0 (by decide)), if_pos (isW_T h0 (by decide)), tl_nx h0]
theorem neg_not {f lv i : Nat} {c : KT} {K : List KT} (h0 : Tl U i ((0, kNot) :: c :: K)) : rd reservedB U (f + 1) .neg lv i = notR U (rd reservedB U f .neg) lv i := by
  rw [rd]
  dsimp only
  rw [if_pos (isW_T h0 (by decide))]
theorem neg_quant {f lv i : Nat} {t : List UInt8} {c : KT} {K : List KT} (h0 : Tl U i ((0, t) :: c :: K)) (ht : t = kAll ∨ t = kSome) : rd reservedB U (f + 1) .neg lv i =
    (name reservedB U (i + 1)).bind fun v j => (need U [58] j).bind fun _ j => (within U (rd reservedB U f .cond) lv j).bind fun x j => .ok (.mk 13 (tk U i).text 0 (tk U i).pos [v, x]) j := by
  rw [rd]
  dsimp only
  rw [if_neg (isW_F h0 (by rcases ht with rfl | rfl <;> decide)), if_pos (isW_T h0 (by rcases ht with rfl | rfl <;> decide)), tl_nx h0]
theorem rdc_unit {t : Syn} (hl : lvl 0 t = 5) (hh : ∃ d A, ktc t = d :: A ∧ calmK d) (h : ∀ f lv i c B, Tl U i (ktc t ++ c :: B) → DN t (i + (ktc t).length) (rd reservedB U (f + 1) .unit lv i)) : RdC U t ∧ SpC U t := by
  have h1 : RdC U t := fun m f lv i c B hm hle h0 hs ho => by
    obtain ⟨d, A, e, hd⟩ := hh
    refine upC (m := 5) (by unfold okM; omega) hm (by rcases hm with rfl | rfl | rfl | rfl | rfl <;> omega) (fun f lv => ?_) (fun _ => ⟨d, A ++ c :: B, by rw [e] at h0; exact h0, hd⟩) (tl_drop h0) hs f lv
    cases f with
    | zero => trivial
    | succ f => exact h f lv i c B h0
  exact ⟨h1, spC_of h1 (.inr (.inr hl))⟩
theorem rdc_neg {t : Syn} (hl : lvl 0 t = 2 ∨ lvl 0 t = 3) (h : ∀ f lv i c B, Tl U i (ktc t ++ c :: B) → stopC 2 c → (opn t = true → stopC 0 c) → DN t (i + (ktc t).length) (rd reservedB U (f + 1) .neg lv i)) : RdC U t ∧ SpC U t := by
  have h1 : RdC U t := fun m f lv i c B hm hle h0 hs ho => by
    have hm2 : m ≤ 2 := by rcases hm with rfl | rfl | rfl | rfl | rfl <;> omega
    refine upC (m := 2) (by unfold okM; omega) hm hm2 (fun f lv => ?_) (fun h => absurd h (by omega)) (tl_drop h0) hs f lv
    cases f with
    | zero => trivial
    | succ f => exact h f lv i c B h0 (hs.le hm (by simp) hm2) ho
  exact ⟨h1, spC_of h1 (by rcases hl with h | h <;> simp [h])⟩
theorem main_c : ∀ t : Syn, okc t = true → RdC U t ∧ SpC U t
  | .mk k t n p [], h => by
    rcases okc_nil h with ⟨hk, ht, h1, h2⟩ | ⟨hk, hn, h1⟩
    · refine rdc_unit (by simp [lvl, Syn.kind, hk]) (head_c _ h (by simp [lvl, Syn.kind, hk])) fun f lv i c B h0 => ?_
      rw [ktc, if_pos hk] at h0 ⊢
      rw [unit_num h0, dec_dv, hk, ht, show ((n.toNat : Nat) : Int) = n by omega]
      exact dn_ok (.mk trivial .nil)
    · refine rdc_unit (by simp [lvl, Syn.kind, hk]) (head_c _ h (by simp [lvl, Syn.kind, hk])) fun f lv i c B h0 => ?_
      rw [ktc, if_neg (by omega)] at h0 ⊢
      rw [unit_name h0 h1, hk, hn]
      exact dn_ok (.mk trivial .nil)
  | .mk k t n p [a], h => by
    obtain ⟨ha, h'⟩ := okc_one h
    have ia := (main_c a ha).1
    rcases h' with ⟨hk, ht, hn⟩ | ⟨hk, hn, ht⟩
    · refine rdc_neg (.inl (by simp [lvl, Syn.kind, hk])) fun f lv i c B h0 hs ho => ?_
      rw [ktc, if_pos hk] at h0 ⊢
      obtain ⟨d, K, hdK⟩ := cons_of (A := parK (decide (lvl 0 a < 2)) (ktc a)) (c := c) (B := B)
      have h0' := h0
      rw [List.cons_append, hdK] at h0'
      rw [neg_not h0']
      unfold notR
      rw [tl_nx h0', List.length_cons, ← Nat.add_assoc, Nat.add_right_comm]
      refine (dn_within (operC (b := decide (lvl 0 a < 2)) ia (by unfold okM; omega) (fun h => by simpa using h) (tl_next h0) hs (fun h ho' => ho ?_) f (lv + 1))).bind fun y hy => ?_
      · have : ¬ k = 13 := by omega
        rw [opn, if_neg this, ho']
        simp only [decide_eq_false_iff_not] at h
        simp [hk]; omega
      · rw [hk, ht, hn]
        exact dn_ok (.mk trivial (.cons hy .nil))
    · refine rdc_unit (by simp [lvl, Syn.kind, hk]) (head_c _ h (by simp [lvl, Syn.kind, hk])) fun f lv i c B h0 => ?_
      rw [ktc, if_neg (by omega)] at h0 ⊢
      have h0' : Tl U i ((0, t) :: (2, [40]) :: (parK (decide (lvl 0 a < 4)) (ktc a) ++ (2, [41]) :: c :: B)) := by simpa using h0
      have h1 := tl_next h0'
      have h2 := tl_next h1
      rw [unit_one h0' ht, hk]
      have e : i + ((0, t) :: (2, [40]) :: (parK (decide (lvl 0 a < 4)) (ktc a) ++ [(2, [41])])).length = i + 1 + 1 + (parK (decide (lvl 0 a < 4)) (ktc a)).length + 1 := by simp only [List.length_cons, List.length_append, List.length_nil]; omega
      rw [e]
      exact dn_args1 (by rw [tl_text h0']) hn h1 (tl_lt' h2) (operC (m := 4) ia (by unfold okM; omega) (fun h => by simpa using h) h2 stopC_41 (fun _ _ => stopC_41) f (lv + 1)) (tl_drop h2)
  | .mk k t n p [a, b], h => by
    obtain ⟨hb, hn, h'⟩ := okc_two h
    have ib := main_c b hb
    rcases h' with ⟨hk, ht, ha⟩ | ⟨hk, ht, ha⟩ | ⟨hk, ht, ha⟩
    · obtain ⟨a1, a2, a3, a4⟩ := nm_parts ha
      have ea : ∀ q, Twin Any a (.mk 8 a.text 0 q []) := fun q => by
        cases a
        simp only [Syn.kind, Syn.num, Syn.kids, Syn.text] at a1 a2 a3 ⊢
        subst a1 a2 a3
        exact .mk trivial .nil
      by_cases hc : t = kCount
      · refine rdc_unit (by simp [lvl, Syn.kind, Syn.text, hk, hc]) (head_c _ h (by simp [lvl, Syn.kind, Syn.text, hk, hc])) fun f lv i c B h0 => ?_
        rw [ktc, if_pos hk, if_pos hc] at h0 ⊢
        have h0' : Tl U i ((0, t) :: (0, a.text) :: (2, [40]) :: (ktc b ++ (2, [41]) :: c :: B)) := by simpa [parK] using h0
        have h1 := tl_next h0'
        have h2 := tl_next h1
        have h3 := tl_next h2
        rw [unit_count (hc ▸ h0'), tl_name h1 (nameB_tok a4).2, bind_okk]
        have e : i + ((0, t) :: (0, a.text) :: parK true (ktc b)).length = i + 1 + 1 + 1 + (ktc b).length + 1 := by simp only [parK, List.length_cons, List.length_append, List.length_nil, if_true]; omega
        rw [e]
        refine (dn_parens h2 (tl_lt' h3) (ib.1 0 f (lv + 1) _ _ _ (by unfold okM; omega) (Nat.zero_le _) h3 stopC_41 (fun _ => stopC_41)) (tl_drop h3)).bind fun y hy => ?_
        rw [tl_text h0', hk, hn]
        exact dn_ok (.mk trivial (.cons (ea _) (.cons hy .nil)))
      · have ht' : t = kAll ∨ t = kSome := by rcases ht with h | h | h <;> first | exact .inl h | exact .inr h | exact absurd h hc
        refine rdc_neg (.inl (by simp [lvl, Syn.kind, Syn.text, hk, hc])) fun f lv i c B h0 hs ho => ?_
        have hop : opn (.mk k t n p [a, b]) = true := by rw [opn, if_pos hk]; simpa using hc
        rw [ktc, if_pos hk, if_neg hc] at h0 ⊢
        have h0' : Tl U i ((0, t) :: (0, a.text) :: (2, [58]) :: (ktc b ++ c :: B)) := by simpa using h0
        have h1 := tl_next h0'
        have h2 := tl_next h1
        have h3 := tl_next h2
        rw [neg_quant h0' ht', tl_name h1 (nameB_tok a4).2, bind_okk, tl_needL h2 (.inl rfl) (tl_lt' h3), bind_okk]
        have e : i + ((0, t) :: (0, a.text) :: (2, [58]) :: ktc b).length = i + 1 + 1 + 1 + (ktc b).length := by simp only [List.length_cons]; omega
        rw [e]
        refine (dn_within (ib.1 0 f (lv + 1) _ _ _ (by unfold okM; omega) (Nat.zero_le _) h3 (ho hop) (fun _ => ho hop))).bind fun y hy => ?_
        rw [tl_text h0', hk, hn]
        exact dn_ok (.mk trivial (.cons (ea _) (.cons hy .nil)))
    · have ia := main_c a ha
      refine rdc_unit (by simp [lvl, Syn.kind, hk]) (head_c _ h (by simp [lvl, Syn.kind, hk])) fun f lv i c B h0 => ?_
      rw [ktc, if_neg (by omega), if_pos hk] at h0 ⊢
      have h0' : Tl U i ((0, t) :: (2, [40]) :: (parK (decide (lvl 0 a < 4)) (ktc a) ++ (2, [44]) :: (parK (decide (lvl 0 b < 4)) (ktc b) ++ (2, [41]) :: c :: B))) := by simpa using h0
      have h1 := tl_next h0'
      have h2 := tl_next h1
      have h3 := tl_drop h2
      have h4 := tl_next h3
      rw [unit_two (ht ▸ h0'), hk]
      have e : i + ((0, t) :: (2, [40]) :: (parK (decide (lvl 0 a < 4)) (ktc a) ++ (2, [44]) :: (parK (decide (lvl 0 b < 4)) (ktc b) ++ [(2, [41])]))).length =
          i + 1 + 1 + (parK (decide (lvl 0 a < 4)) (ktc a)).length + 1 + (parK (decide (lvl 0 b < 4)) (ktc b)).length + 1 := by simp only [List.length_cons, List.length_append, List.length_nil]; omega
      rw [e]
      exact dn_args2 (by rw [tl_text h0']) hn h1 (tl_lt' h2) (operC (m := 4) ia.1 (by unfold okM; omega) (fun h => by simpa using h) h2 stopC_44 (fun _ _ => stopC_44) f (lv + 1)) h3 (tl_lt' h4)
        (operC (m := 4) ib.1 (by unfold okM; omega) (fun h => by simpa using h) h4 stopC_41 (fun _ _ => stopC_41) f (lv + 1)) (tl_drop h4)
    · have ia := main_c a ha
      rcases opc_cases ht with h' | h' | ho' | ho'
      · rw [hk]; exact bin_row (.inl ⟨rfl, h'⟩) (h' ▸ op_or) hn ha ia ib.1
      · rw [hk]; exact bin_row (.inr (.inl ⟨rfl, h'⟩)) (h' ▸ op_and) hn ha ia ib.1
      · have hop := op_cmp ho'
        have hloose : looseB t a = false := by
          unfold looseB
          rw [show (t == kOr || t == kAnd) = false by
            simp only [cmps, List.mem_cons, List.not_mem_nil, or_false] at ho'
            clear hop ht
            rcases ho' with rfl | rfl | rfl | rfl <;> decide]
          rfl
        refine rdc_neg (.inr (by rw [hk]; exact lvl_bin hop)) fun f lv i c B h0 hs _ => ?_
        rw [ktc, if_neg (by omega), if_neg (by omega), (lft_of hop).1, (lft_of hop).2, hloose, Bool.false_or] at h0 ⊢
        have hkd : opK t = (2, t) := by unfold opK; rw [if_pos (.inl ho')]
        rw [hkd] at h0 ⊢
        rw [List.append_assoc, List.cons_append] at h0
        have h1 := tl_drop h0
        have h2 := tl_next h1
        have st4 : stopC 4 (2, t) := by
          simp only [cmps, List.mem_cons, List.not_mem_nil, or_false] at ho'
          rcases ho' with rfl | rfl | rfl | rfl <;> (unfold stopC goC noOp; decide)
        have ra := operC (b := decide (lvl 0 a < 4)) ia.1 (m := 4) (by unfold okM; omega) (fun h => by simpa using h) h0 st4 (fun h h' => by rw [opn_high a ha (by simpa using h)] at h'; cases h') f lv
        have rb := operC (b := decide (lvl 0 b < 4)) ib.1 (m := 4) (by unfold okM; omega) (fun h => by simpa using h) h2 (hs.le (m := 2) (by simp) (by simp) (by omega)) (fun h h' => by rw [opn_high b hb (by simpa using h)] at h'; cases h') f lv
        obtain ⟨d, A, e, hd⟩ := head_par (x := a) (b := decide (lvl 0 a < 4)) (fun hb => head_c a ha (by simpa using hb))
        have h0' := h0
        rw [e] at h0'
        obtain ⟨d2, K2, hdK⟩ := cons_of (A := parK (decide (lvl 0 b < 4)) (ktc b)) (c := c) (B := B)
        have h1' := h1
        rw [hdK] at h1'
        rw [rd]
        dsimp only
        rw [if_neg (hd.1.isW h0'), if_neg (noOp.isW h0' hd.2)]
        refine ra.bind fun y hy => ?_
        have hw : isW U [[61], [33, 61], [60], [60, 61]] (i + (parK (decide (lvl 0 a < 4)) (ktc a)).length) = true := isW_T h1 (by
          show (_ && List.contains cmps t) = true
          simpa using ho')
        rw [if_pos hw, tl_nx h1']
        have e2 : i + (parK (decide (lvl 0 a < 4)) (ktc a) ++ (2, t) :: parK (decide (lvl 0 b < 4)) (ktc b)).length = i + (parK (decide (lvl 0 a < 4)) (ktc a)).length + 1 + (parK (decide (lvl 0 b < 4)) (ktc b)).length := by simp only [List.length_cons, List.length_append]; omega
        rw [e2]
        refine rb.bind fun z hz => ?_
        rw [tl_text h1, hk, hn]
        exact dn_ok (.mk trivial (.cons hy (.cons hz .nil)))
      · rw [hk]; exact bin_row (.inr (.inr ⟨rfl, ho'⟩)) (op_sum ho') hn ha ia ib.1
  | .mk _ _ _ _ (_ :: _ :: _ :: _), h => by simp [okc] at h
end
end Go.Proofs.YtplbfmcgddnkeaaGreatDoor
end
