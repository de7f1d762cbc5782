/- Joined: WpS. -/
import Derived.Test.YtplbfmcgddnkeaaGreatDoorK19
set_option linter.unusedVariables false
set_option linter.unusedSimpArgs false
section
namespace Go.Proofs.YtplbfmcgddnkeaaGreatDoor
def ktS : Syn → List KT
  | .mk _ t _ _ [] => [(0, t)]
  | .mk _ t _ _ [a] => (0, t) :: (2, [40]) :: (ktc a ++ [(2, [41])])
  | .mk _ t n _ [a, b] => parK (decide (lvl 1 a < lft 1 t)) (ktS a) ++ (0, t) :: ((if t = kThen then [(1, dec n.toNat)] else []) ++ parK (decide (lvl 1 b < rgt 1 t)) (ktS b))
  | _ => []
theorem oks_nil {k : Int} {t : List UInt8} {n p : Int} (h : oks (.mk k t n p []) = true) : (k = 8 ∧ n = 0 ∧ nameB t = true) ∨ (k = 10 ∧ n = 0 ∧ t = kSnap) := by
  rw [oks, Bool.or_eq_true] at h
  rcases h with h | h
  · exact .inl ⟨(nm_parts h).1, (nm_parts h).2.1, (nm_parts h).2.2.2⟩
  · simp only [Bool.and_eq_true, decide_eq_true_eq, beq_iff_eq] at h
    exact .inr ⟨h.1.1, h.1.2, h.2⟩
theorem oks_one {k : Int} {t : List UInt8} {n p : Int} {a : Syn} (h : oks (.mk k t n p [a]) = true) : k = 10 ∧ n = 0 ∧ ((t = kGraphs ∧ okc a = true) ∨ (t ∈ schs ∧ isNum a = true)) := by
  rw [oks] at h
  simp only [Bool.or_eq_true, Bool.and_eq_true, decide_eq_true_eq, beq_iff_eq] at h
  refine ⟨h.1.1, h.1.2, ?_⟩
  rcases h.2 with h | h
  · exact .inl h
  · exact .inr ⟨by simpa using h.1, h.2⟩
theorem ops_cases {t : List UInt8} (h : (opP 1 t).isSome = true) : t = kOr ∨ t = kAnd ∨ t = kThen := by
  unfold opP at h
  rw [if_neg (by decide), if_pos rfl] at h
  by_cases h1 : t = kOr
  · exact .inl h1
  · by_cases h2 : t = kAnd
    · exact .inr (.inl h2)
    · by_cases h3 : t = kThen
      · exact .inr (.inr h3)
      · simp [h1, h2, h3] at h
theorem oks_two {k : Int} {t : List UInt8} {n p : Int} {a b : Syn} (h : oks (.mk k t n p [a, b]) = true) :
    k = 11 ∧ oks a = true ∧ oks b = true ∧ ((t = kOr ∧ n = 0) ∨ (t = kAnd ∧ n = 0) ∨ (t = kThen ∧ 0 ≤ n ∧ n ≤ 1048576)) := by
  rw [oks] at h
  simp only [Bool.and_eq_true, decide_eq_true_eq] at h
  obtain ⟨⟨⟨⟨h1, h2⟩, h3⟩, h4⟩, h5⟩ := h
  refine ⟨h1, h4, h5, ?_⟩
  rcases ops_cases h2 with rfl | rfl | rfl
  · rw [if_neg (by decide)] at h3; exact .inl ⟨rfl, of_decide_eq_true h3⟩
  · rw [if_neg (by decide)] at h3; exact .inr (.inl ⟨rfl, of_decide_eq_true h3⟩)
  · rw [if_pos rfl] at h3
    unfold natB at h3
    simp only [Bool.and_eq_true, decide_eq_true_eq] at h3
    exact .inr (.inr ⟨rfl, h3⟩)
theorem num_shape {a : Syn} (h : isNum a = true) : ∃ n p, a = .mk 9 [] n p [] ∧ 0 ≤ n ∧ n ≤ 1048576 := by
  obtain ⟨h1, h2, h3, h4⟩ := num_parts h
  cases a
  simp only [Syn.kind, Syn.text, Syn.num, Syn.kids] at h1 h2 h3 h4
  subst h1 h2 h4
  exact ⟨_, _, rfl, h3⟩
theorem okc_num {a : Syn} (h : isNum a = true) : okc a = true := by
  obtain ⟨n, p, rfl, h1⟩ := num_shape h
  rw [okc, h]; rfl
theorem spl_s : ∀ t : Syn, oks t = true → Spl (wrs t) (ktS t)
  | .mk k t n p [], h => by
    rw [wrs, ktS]
    rcases oks_nil h with ⟨-, -, h1⟩ | ⟨-, -, rfl⟩
    · exact spl_tok (k := 0) (nameB_tok h1).1
    · exact spl_kw
  | .mk k t n p [a], h => by
    rw [wrs, ktS]
    obtain ⟨-, -, h'⟩ := oks_one h
    have ia : Spl (wrc a) (ktc a) := by
      rcases h' with ⟨-, h'⟩ | ⟨-, h'⟩
      · exact spl_c a h'
      · exact spl_c a (okc_num h')
    have ht : tok t = .ok (0, t.length) := by
      clear h
      rcases h' with ⟨rfl, -⟩ | ⟨h', -⟩
      · exact tokIs (by decide)
      · simp only [schs, List.mem_cons, List.not_mem_nil, or_false] at h'
        rcases h' with rfl | rfl | rfl | rfl | rfl <;> exact tokIs (by decide)
    exact (spl_tok ht).thenC (Spl.signed (.inl rfl) (ia.thenC (spl_sign (.inr (.inl rfl)))))
  | .mk k t n p [a, b], h => by
    rw [wrs, ktS]
    obtain ⟨-, ha, hb, h'⟩ := oks_two h
    have ia := spl_s a ha
    have ib := spl_s b hb
    clear h
    rcases h' with ⟨rfl, -⟩ | ⟨rfl, -⟩ | ⟨rfl, h1, h2⟩
    · rw [if_neg (by decide), if_neg (by decide)]
      exact (spl_par ia).thenC ((spl_kw).thenC (spl_par ib).blank).blank
    · rw [if_neg (by decide), if_neg (by decide)]
      exact (spl_par ia).thenC ((spl_kw).thenC (spl_par ib).blank).blank
    · rw [if_pos rfl, if_pos rfl, List.append_assoc]
      exact (spl_par ia).thenC ((spl_kw).thenC ((spl_tok (k := 1) (dec_tok (show n.toNat ≤ 1048576 by omega))).thenC (spl_par ib).blank).blank).blank
  | .mk _ _ _ _ (_ :: _ :: _ :: _), h => by simp [oks] at h
def nts : Nat → NT | 0 => .scheme | 1 => .term | 2 => .factor | _ => .atom
def goS (m : Nat) : List (List (List UInt8)) := if m = 0 then [[kOr], [kAnd], [kThen]] else if m = 1 then [[kAnd], [kThen]] else if m = 2 then [[kThen]] else []
def stopS (m : Nat) (c : KT) : Prop := ∀ ws ∈ goS m, noOp ws c
theorem stopS.le {m m' : Nat} {c : KT} (h : stopS m c) (hm' : m' ≤ 3) (hl : m ≤ m') : stopS m' c := fun ws hw => h ws (by
  have hm : m = 0 ∨ m = 1 ∨ m = 2 ∨ m = 3 := by omega
  have hm' : m' = 0 ∨ m' = 1 ∨ m' = 2 ∨ m' = 3 := by omega
  rcases hm with rfl | rfl | rfl | rfl <;> rcases hm' with rfl | rfl | rfl | rfl <;> first | omega | (simp [goS] at hw; done) | exact hw | (simp [goS] at hw ⊢; first | done | exact hw | (subst hw; simp; done) | (rcases hw with rfl | rfl <;> simp; done)))
theorem stopS_41 {m : Nat} : stopS m (2, [41]) := by
  unfold stopS goS noOp
  split <;> (try split) <;> (try split) <;> decide
section
variable {U : List Tok} {f lv i L : Nat} {x a b : Syn} {A B : List KT} {c : KT} {t : List UInt8}
abbrev RS (U : List Tok) (f m : Nat) : Rd := rd reservedB U f (nts m)
theorem upS23 (h : ∀ f lv, DN x L (RS U f 3 lv i)) (hL : Tl U L (c :: B)) (hs : stopS 2 c) : ∀ f lv, DN x L (RS U f 2 lv i)
  | 0, _ => trivial
  | f + 1, lv => by
    show DN x L (rd reservedB U (f + 1) .factor lv i)
    rw [rd]
    dsimp only
    refine (h f lv).bind fun y hy => ?_
    rw [if_neg (noOp.isW hL (hs [kThen] (by simp [goS])))]
    exact dn_ok hy
theorem upS12 (h : ∀ f lv, DN x L (RS U f 2 lv i)) (hL : Tl U L (c :: B)) (hs : stopS 1 c) : ∀ f lv, DN x L (RS U f 1 lv i)
  | 0, _ => trivial
  | f + 1, lv => sp_end (r := RS U f 2) (sp_of (h f lv)) (noOp.isW hL (hs [kAnd] (by simp [goS])))
theorem upS01 (h : ∀ f lv, DN x L (RS U f 1 lv i)) (hL : Tl U L (c :: B)) (hs : stopS 0 c) : ∀ f lv, DN x L (RS U f 0 lv i)
  | 0, _ => trivial
  | f + 1, lv => sp_end (r := RS U f 1) (sp_of (h f lv)) (noOp.isW hL (hs [kOr] (by simp [goS])))
theorem upS {m m' : Nat} (hm : m ≤ 3) (hl : m' ≤ m) (h : ∀ f lv, DN x L (RS U f m lv i)) (hL : Tl U L (c :: B)) (hs : stopS m' c) : ∀ f lv, DN x L (RS U f m' lv i) := by
  by_cases e3 : m' = 3
  · obtain rfl : m = m' := by omega
    exact h
  have h2 : 2 ≤ m → ∀ f lv, DN x L (RS U f 2 lv i) := fun e => by
    by_cases e' : m = 2
    · exact e' ▸ h
    · obtain rfl : m = 3 := by omega
      exact upS23 h hL (hs.le (by omega) (by omega))
  by_cases e2 : m' = 2
  · subst e2; exact h2 hl
  have h1 : 1 ≤ m → ∀ f lv, DN x L (RS U f 1 lv i) := fun e => by
    by_cases e' : m = 1
    · exact e' ▸ h
    · exact upS12 (h2 (by omega)) hL (hs.le (by omega) (by omega))
  by_cases e1 : m' = 1
  · subst e1; exact h1 hl
  obtain rfl : m' = 0 := by omega
  by_cases e' : m = 0
  · exact e' ▸ h
  · exact upS01 (h1 (by omega)) hL hs
def RdS (U : List Tok) (t : Syn) : Prop :=
  ∀ m f lv i c B, m ≤ 3 → m ≤ lvl 1 t → Tl U i (ktS t ++ c :: B) → stopS m c → DN t (i + (ktS t).length) (RS U f m lv i)
theorem operS {b : Bool} {m : Nat} (h : RdS U x) (hm : m ≤ 3) (hb : b = false → m ≤ lvl 1 x) (h0 : Tl U i (parK b (ktS x) ++ c :: B)) (hs : stopS m c) :
    ∀ f lv, DN x (i + (parK b (ktS x)).length) (RS U f m lv i) := by
  cases b with
  | false => exact fun f lv => h m f lv i c B hm (hb rfl) h0 hs
  | true =>
    have h0' : Tl U i ((2, [40]) :: (ktS x ++ (2, [41]) :: c :: B)) := by simpa [parK] using h0
    have h1 := tl_next h0'
    have h2 := tl_drop (A := ktS x) h1
    have hlen : i + (parK true (ktS x)).length = i + 1 + (ktS x).length + 1 := by simp [parK]; omega
    rw [hlen]
    refine upS (m := 3) (Nat.le_refl _) hm (fun f lv => ?_) (tl_next h2) hs
    cases f with
    | zero => trivial
    | succ f =>
      show DN x _ (rd reservedB U (f + 1) .atom lv i)
      rw [atom_paren h0']
      exact dn_parens h0' (tl_lt' h1) (h 0 f (lv + 1) (i + 1) _ _ (by omega) (Nat.zero_le _) h1 stopS_41) h2
def opsS (p : Nat) : List (List UInt8) := if p = 0 then [kOr] else [kAnd]
def SpS (U : List Tok) (t : Syn) : Prop :=
  ∀ p f lv i c B, p ≤ 1 → p ≤ lvl 1 t → Tl U i (ktS t ++ c :: B) → stopS (p + 1) c → SP U (RS U f (p + 1)) (opsS p) lv i t (i + (ktS t).length)
theorem spS_of (h : RdS U x) (hl : 2 ≤ lvl 1 x) : SpS U x := fun p f lv i c B hp hle h0 hs => sp_of (h (p + 1) f lv i c B (by omega) (by omega) h0 hs)
theorem stop_opS {p : Nat} (h : (p = 0 ∧ t = kOr) ∨ (p = 1 ∧ t = kAnd)) : stopS (p + 1) (0, t) := by
  rcases h with ⟨rfl, rfl⟩ | ⟨rfl, rfl⟩ <;> (unfold stopS goS noOp; decide)
theorem lvl_binS {n p : Int} {ks : List Syn} {o l r : Nat} (h : opP 1 t = some (o, l, r)) : lvl 1 (.mk 11 t n p ks) = o := by simp [lvl, Syn.kind, Syn.text, own, h]
theorem lft_ofS {o l r : Nat} (h : opP 1 t = some (o, l, r)) : lft 1 t = l ∧ rgt 1 t = r := by simp [lft, rgt, h]
theorem bin_rowS {p : Nat} {n q : Int} (hp : (p = 0 ∧ t = kOr) ∨ (p = 1 ∧ t = kAnd)) (ho : opP 1 t = some (p, p, p + 1)) (hn : n = 0)
    (ha : RdS U a ∧ SpS U a) (hb : RdS U b) : RdS U (.mk 11 t n q [a, b]) ∧ SpS U (.mk 11 t n q [a, b]) := by
  have hp' : p ≤ 1 := by rcases hp with ⟨h, -⟩ | ⟨h, -⟩ <;> omega
  have hlvl : lvl 1 (.mk 11 t n q [a, b]) = p := lvl_binS ho
  have hkt : ktS (.mk 11 t n q [a, b]) = parK (decide (lvl 1 a < p)) (ktS a) ++ (0, t) :: parK (decide (lvl 1 b < p + 1)) (ktS b) := by
    have : ¬ t = kThen := by rcases hp with ⟨-, rfl⟩ | ⟨-, rfl⟩ <;> decide
    rw [ktS, (lft_ofS ho).1, (lft_ofS ho).2, if_neg this]; rfl
  have core : ∀ f lv i c B, Tl U i (ktS (.mk 11 t n q [a, b]) ++ c :: B) → stopS (p + 1) c →
      SP U (RS U f (p + 1)) (opsS p) lv i (.mk 11 t n q [a, b]) (i + (ktS (.mk 11 t n q [a, b])).length) := by
    intro f lv i c B h0 hs
    rw [hkt, List.append_assoc, List.cons_append] at h0
    have h1 := tl_drop h0
    obtain ⟨d, K, hdK⟩ := cons_of (A := parK (decide (lvl 1 b < p + 1)) (ktS b)) (c := c) (B := B)
    have hl : SP U (RS U f (p + 1)) (opsS p) lv i a (i + (parK (decide (lvl 1 a < p)) (ktS a)).length) := by
      cases hbl : decide (lvl 1 a < p) with
      | true =>
        rw [hbl] at h0
        exact sp_of (operS (b := true) ha.1 (by omega) (fun h => by cases h) h0 (stop_opS hp) f lv)
      | false =>
        rw [hbl] at h0
        simp only [decide_eq_false_iff_not] at hbl
        exact ha.2 p f lv i _ _ hp' (by omega) h0 (stop_opS hp)
    have h1' := h1
    rw [hdK] at h1'
    have hr := operS (b := decide (lvl 1 b < p + 1)) hb (m := p + 1) (by omega) (fun h => by simpa using h) (tl_next h1) hs f lv
    have := sp_step (p := q) hl h1' (.inr rfl) (by rcases hp with ⟨rfl, rfl⟩ | ⟨rfl, rfl⟩ <;> simp [opsS]) hr
    rw [hkt, hn]
    have e : i + (parK (decide (lvl 1 a < p)) (ktS a) ++ (0, t) :: parK (decide (lvl 1 b < p + 1)) (ktS b)).length = i + (parK (decide (lvl 1 a < p)) (ktS a)).length + 1 + (parK (decide (lvl 1 b < p + 1)) (ktS b)).length := by
      simp only [List.length_append, List.length_cons]; omega
    rw [e]
    exact this
  have rdp : ∀ f lv i c B, Tl U i (ktS (.mk 11 t n q [a, b]) ++ c :: B) → stopS p c → DN (.mk 11 t n q [a, b]) (i + (ktS (.mk 11 t n q [a, b])).length) (RS U f p lv i) := by
    intro f lv i c B h0 hs
    cases f with
    | zero => trivial
    | succ f =>
      have h1 := sp_end (core f lv i c B h0 (hs.le (by omega) (by omega))) (noOp.isW (tl_drop h0) (hs _ (by rcases hp with ⟨rfl, rfl⟩ | ⟨rfl, rfl⟩ <;> simp [goS, opsS])))
      rcases hp with ⟨rfl, -⟩ | ⟨rfl, -⟩ <;> exact h1
  have hrd : RdS U (.mk 11 t n q [a, b]) := by
    intro m f lv i c B hm hle h0 hs
    rw [hlvl] at hle
    exact upS (by omega) hle (fun f lv => rdp f lv i c B h0 (hs.le (by omega) hle)) (tl_drop h0) hs f lv
  refine ⟨hrd, fun p' f lv i c B hp1 hle h0 hs => ?_⟩
  rw [hlvl] at hle
  by_cases e : p' = p
  · subst e; exact core f lv i c B h0 hs
  · exact sp_of (hrd (p' + 1) f lv i c B (by omega) (by rw [hlvl]; omega) h0 hs)
theorem atom_name {K : List KT} (h0 : Tl U i ((0, t) :: c :: K)) (hn : nameB t = true) : rd reservedB U (f + 1) .atom lv i = .ok (.mk 8 t 0 (tk U i).pos []) (i + 1) := by
  have hr := (nameB_tok hn).2
  rw [rd]
  dsimp only
  rw [if_neg (kw_no h0 hr), if_neg (kw_no h0 hr), if_neg (kw_no h0 hr), if_neg (sign_no h0 (name_not_sign hn).1)]
  exact tl_name h0 hr
theorem atom_snap {K : List KT} (h0 : Tl U i ((0, kSnap) :: c :: K)) : rd reservedB U (f + 1) .atom lv i = .ok (.mk 10 kSnap 0 (tk U i).pos []) (i + 1) := by
  rw [rd]
  dsimp only
  rw [if_neg (isW_F h0 (by decide)), if_pos (isW_T h0 (by decide)), tl_text h0, tl_nx h0]
theorem atom_graphs {K : List KT} (h0 : Tl U i ((0, kGraphs) :: c :: K)) : rd reservedB U (f + 1) .atom lv i = arguments U (tk U i) [rd reservedB U f .cond] lv (i + 1) := by
  rw [rd]
  dsimp only
  rw [if_neg (isW_F h0 (by decide)), if_neg (isW_F h0 (by decide)), if_pos (isW_T h0 (by decide)), tl_nx h0]
theorem atom_one {K : List KT} (h0 : Tl U i ((0, t) :: c :: K)) (ht : t ∈ schs) : rd reservedB U (f + 1) .atom lv i = arguments U (tk U i) [fun _ => number U] lv (i + 1) := by
  rw [rd]
  dsimp only
  rw [if_pos (isW_T h0 (by simpa using ht)), tl_nx h0]
theorem dn_number {n p : Int} {w : List UInt8} {K : List KT} (h0 : Tl U i ((1, w) :: c :: K)) (hn : 0 ≤ n) (hw : w = dec n.toNat) : DN (.mk 9 [] n p []) (i + 1) (number U i) := by
  rw [tl_number h0, hw, dec_dv, show ((n.toNat : Nat) : Int) = n by omega]
  exact dn_ok (.mk trivial .nil)
theorem rds_unit {t : Syn} (hl : lvl 1 t = 5) (h : ∀ f lv i c B, Tl U i (ktS t ++ c :: B) → DN t (i + (ktS t).length) (rd reservedB U (f + 1) .atom lv i)) : RdS U t ∧ SpS U t := by
  have h1 : RdS U t := fun m f lv i c B hm hle h0 hs => by
    refine upS (m := 3) (Nat.le_refl _) hm (fun f lv => ?_) (tl_drop h0) hs f lv
    cases f with
    | zero => trivial
    | succ f => exact h f lv i c B h0
  exact ⟨h1, spS_of h1 (by omega)⟩
theorem main_s : ∀ t : Syn, oks t = true → RdS U t ∧ SpS U t
  | .mk k t n p [], h => by
    rcases oks_nil h with ⟨hk, hn, h1⟩ | ⟨hk, hn, ht⟩
    · refine rds_unit (by simp [lvl, Syn.kind, hk]) fun f lv i c B h0 => ?_
      rw [ktS] at h0 ⊢
      rw [atom_name h0 h1, hk, hn]
      exact dn_ok (.mk trivial .nil)
    · refine rds_unit (by simp [lvl, Syn.kind, hk]) fun f lv i c B h0 => ?_
      rw [ktS, ht] at h0 ⊢
      rw [atom_snap h0, hk, hn]
      exact dn_ok (.mk trivial .nil)
  | .mk k t n p [a], h => by
    obtain ⟨hk, hn, h'⟩ := oks_one h
    refine rds_unit (by simp [lvl, Syn.kind, hk]) fun f lv i c B h0 => ?_
    rw [ktS] at h0 ⊢
    have h0' : Tl U i ((0, t) :: (2, [40]) :: (ktc a ++ (2, [41]) :: c :: B)) := by simpa using h0
    have h1 := tl_next h0'
    have h2 := tl_next h1
    have e : i + ((0, t) :: (2, [40]) :: (ktc a ++ [(2, [41])])).length = i + 1 + 1 + (ktc a).length + 1 := by simp only [List.length_cons, List.length_append, List.length_nil]; omega
    rw [e, hk]
    rcases h' with ⟨ht, ha⟩ | ⟨ht, ha⟩
    · rw [atom_graphs (ht ▸ h0')]
      exact dn_args1 (by rw [tl_text h0']) hn h1 (tl_lt' h2) ((main_c a ha).1 0 f (lv + 1) _ _ _ (by unfold okM; omega) (Nat.zero_le _) h2 stopC_41 (fun _ => stopC_41)) (tl_drop h2)
    · rw [atom_one h0' ht]
      obtain ⟨na, pa, rfl, hna, -⟩ := num_shape ha
      have e2 : ktc (.mk 9 [] na pa []) = [(1, dec na.toNat)] := by rw [ktc, if_pos rfl]
      rw [e2] at h2 ⊢
      exact dn_args1 (by rw [tl_text h0']) hn h1 (tl_lt' h2) (dn_number h2 hna rfl) (tl_next h2)
  | .mk k t n p [a, b], h => by
    obtain ⟨hk, ha, hb, h'⟩ := oks_two h
    have ia := main_s a ha
    have ib := main_s b hb
    rcases h' with ⟨ht, hn⟩ | ⟨ht, hn⟩ | ⟨ht, hn1, hn2⟩
    · rw [hk]; exact bin_rowS (.inl ⟨rfl, ht⟩) (by rw [ht]; decide) hn ia ib.1
    · rw [hk]; exact bin_rowS (.inr ⟨rfl, ht⟩) (by rw [ht]; decide) hn ia ib.1
    · have ho : opP 1 t = some (2, 3, 2) := by rw [ht]; decide
      have hlvl : lvl 1 (.mk k t n p [a, b]) = 2 := by rw [hk]; exact lvl_binS ho
      have h1 : RdS U (.mk k t n p [a, b]) := fun m f lv i c B hm hle h0 hs => by
        rw [hlvl] at hle
        refine upS (m := 2) (by omega) hle (fun f lv => ?_) (tl_drop h0) hs f lv
        cases f with
        | zero => trivial
        | succ f =>
          show DN _ _ (rd reservedB U (f + 1) .factor lv i)
          rw [ktS, (lft_ofS ho).1, (lft_ofS ho).2, if_pos ht] at h0 ⊢
          have h0' : Tl U i (parK (decide (lvl 1 a < 3)) (ktS a) ++ (0, t) :: (1, dec n.toNat) :: (parK (decide (lvl 1 b < 2)) (ktS b) ++ c :: B)) := by simpa using h0
          have t1 := tl_drop h0'
          have t2 := tl_next t1
          have t3 := tl_next t2
          obtain ⟨d, K, hdK⟩ := cons_of (A := parK (decide (lvl 1 b < 2)) (ktS b)) (c := c) (B := B)
          have t2' := t2
          rw [hdK] at t2'
          rw [rd]
          dsimp only
          refine (operS (m := 3) ia.1 (by omega) (fun h => by simpa using h) h0' (by unfold stopS goS; simp) f lv).bind fun y hy => ?_
          rw [if_pos (isW_T t1 (by rw [ht]; decide)), tl_nx t1, tl_number t2', bind_okk]
          have e : i + (parK (decide (lvl 1 a < 3)) (ktS a) ++ (0, t) :: ([(1, dec n.toNat)] ++ parK (decide (lvl 1 b < 2)) (ktS b))).length = i + (parK (decide (lvl 1 a < 3)) (ktS a)).length + 1 + 1 + (parK (decide (lvl 1 b < 2)) (ktS b)).length := by
            simp only [List.length_cons, List.length_append, List.length_nil]; omega
          rw [e]
          refine (dn_within (operS (m := 2) ib.1 (by omega) (fun h => by simpa using h) t3 (hs.le (by omega) hle) f (lv + 1))).bind fun z hz => ?_
          rw [dec_dv, hk, ht]
          have : (Syn.mk 9 [] ((n.toNat : Nat) : Int) (tk U (i + (parK (decide (lvl 1 a < 3)) (ktS a)).length + 1)).pos []).num = n := by show ((n.toNat : Nat) : Int) = n; omega
          rw [this]
          exact dn_ok (.mk trivial (.cons hy (.cons hz .nil)))
      exact ⟨h1, spS_of h1 (by omega)⟩
  | .mk _ _ _ _ (_ :: _ :: _ :: _), h => by simp [oks] at h
end
end Go.Proofs.YtplbfmcgddnkeaaGreatDoor
end
