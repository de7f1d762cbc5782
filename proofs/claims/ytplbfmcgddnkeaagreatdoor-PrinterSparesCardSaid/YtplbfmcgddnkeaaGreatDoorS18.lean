/- Joined: Spr, WpC, WpD, WpE, WpS, WpF. -/
import Derived.Test.YtplbfmcgddnkeaaGreatDoorS07
import Derived.Test.YtplbfmcgddnkeaaGreatDoorS17
set_option linter.unusedVariables false
set_option linter.unusedSimpArgs false
section
set_option maxHeartbeats 2000000
namespace Go.Proofs.YtplbfmcgddnkeaaGreatDoor
def pb (l : List UInt8) : Nat := l.countP (· == 40)
theorem pb_nil : pb [] = 0 := rfl
theorem pb_cons (c : UInt8) (l : List UInt8) : pb (c :: l) = (if c = 40 then 1 else 0) + pb l := by
  unfold pb; rw [List.countP_cons]; by_cases h : c = 40 <;> simp [h, Nat.add_comm]
theorem pb_app (l m : List UInt8) : pb (l ++ m) = pb l + pb m := List.countP_append
theorem pb_par (b : Bool) (s : List UInt8) : pb (par b s) = (if b then 1 else 0) + pb s := by
  cases b
  · simp [par]
  · simp only [par, if_true, pb_cons, pb_app, pb_nil, show ¬ ((41 : UInt8) = 40) from by decide, if_false, Nat.add_zero]
theorem pb_zero {l : List UInt8} (h : ∀ c ∈ l, c ≠ 40) : pb l = 0 := by
  unfold pb
  rw [List.countP_eq_zero]
  intro c hc
  simpa using h c hc
theorem runLen_whole {p : Int → Bool} : ∀ {l : List UInt8}, runLen p l = l.length → ∀ c ∈ l, p c.toNat = true
  | [], _, c, h => (List.not_mem_nil h).elim
  | d :: l, hl, c, h => by
    simp only [runLen] at hl
    split at hl
    · rename_i hp
      rcases List.mem_cons.1 h with rfl | h
      · exact hp
      · exact runLen_whole (by simpa using hl) c h
    · simp at hl
theorem pb_word {s : List UInt8} (h : formedB 0 s = true) : pb s = 0 := by
  have h1 : runLen isWordy s = s.length := by
    unfold formedB at h
    rw [if_neg (by decide), if_neg (by decide)] at h
    simp only [Bool.and_eq_true, decide_eq_true_eq] at h
    exact h.1.1.2
  refine pb_zero fun c hc e => ?_
  have := runLen_whole h1 c hc
  rw [e] at this
  revert this; decide
theorem pb_nm {x : Syn} (h : isNm x = true) : pb x.text = 0 := by
  unfold isNm nameB at h
  simp only [Bool.and_eq_true] at h
  exact pb_word h.2.1
theorem pb_dec (n : Nat) : pb (dec n) = 0 := by
  refine pb_zero fun c hc e => ?_
  have := (decGo_digit (n + 1) n [] (by omega) (fun c hc => (List.not_mem_nil hc).elim)).2 c hc
  rw [e] at this
  revert this; decide
theorem pb_wnum {x : Syn} (h : isNum x = true) : pb (wrc x) = 0 ∧ pb (warg x) = 0 := by
  rcases x with ⟨k, t, n, p, _ | ⟨a, l⟩⟩
  · simp only [isNum, Syn.kind, Syn.text, Syn.num, Syn.kids, Bool.and_eq_true, decide_eq_true_eq] at h
    obtain rfl : k = 9 := of_decide_eq_true h.1.1.1
    constructor
    · rw [wrc, if_pos rfl]; exact pb_dec _
    · rw [warg, if_pos (show (Syn.mk 9 t n p []).kind = 9 from rfl)]; exact pb_dec _
  · simp [isNum, Syn.kids] at h
theorem pb_commas : ∀ (l : List (List UInt8)), (∀ x ∈ l, pb x = 0) → pb (commas l) = 0
  | [], _ => rfl
  | [x], h => by rw [commas]; exact h x (by simp)
  | x :: y :: r, h => by
    rw [commas, pb_app, pb_cons, pb_cons, pb_commas (y :: r) (fun z hz => h z (by simp [List.mem_cons] at hz ⊢; right; exact hz)), h x (by simp)]
    decide
theorem pb_wset {x : Syn} (h : isSet x = true) : pb (warg x) = 0 := by
  rcases x with ⟨k, t, n, p, l⟩
  unfold isSet at h
  simp only [Syn.kind, Syn.text, Syn.num, Syn.kids, Bool.and_eq_true, Bool.or_eq_true, beq_iff_eq] at h
  obtain ⟨⟨h0, -⟩, h⟩ := h
  obtain rfl : k = 14 := of_decide_eq_true h0
  rw [warg, if_neg (show ¬ (Syn.mk 14 t n p l).kind = 9 from by simp [Syn.kind]), wset]
  rcases h with ⟨rfl, -⟩ | ⟨rfl, -⟩
  · rw [if_neg (show ¬ (Syn.mk 14 kEvery n p l).text = [] from fun e => by cases e)]; show pb kEvery = 0; decide
  · rw [if_pos (show (Syn.mk 14 [] n p l).text = [] from rfl), pb_cons, pb_app, pb_commas _ (fun x hx => by
      obtain ⟨y, -, rfl⟩ := List.mem_map.1 hx
      exact pb_dec _)]
    decide
def pc (T : List Tok) (i : Nat) : Nat := (T.take i).countP fun t => t.text == [40]
theorem pc_mono (T : List Tok) (i : Nat) : pc T i ≤ pc T (i + 1) := by
  unfold pc
  rw [List.take_add_one, List.countP_append]; omega
theorem pc_le (T : List Tok) (i : Nat) : pc T i ≤ pc T T.length := by
  unfold pc
  rw [List.take_length]
  exact (List.take_sublist _ _).countP_le
theorem pc_open {T : List Tok} {i : Nat} (h : (tk T i).kind ≠ 3) (ht : (tk T i).text = [40]) : pc T i + 1 ≤ pc T (i + 1) := by
  have hi : i < T.length := by
    rcases Nat.lt_or_ge i T.length with h' | h'
    · exact h'
    · exfalso; apply h; unfold tk; rw [List.getD_eq_getElem?_getD, List.getElem?_eq_none h']; rfl
  have he : tk T i = T[i] := by unfold tk; rw [List.getD_eq_getElem?_getD, List.getElem?_eq_getElem hi]; rfl
  rw [he] at ht
  unfold pc
  rw [List.take_add_one, List.countP_append, List.getElem?_eq_getElem hi]
  simp [ht]
section
variable {T : List Tok} {C lv i : Nat}
abbrev QS (T : List Tok) (l i : Nat) (x : Syn) (j : Nat) : Prop :=
  pb (par (decide (lvl 0 x < l)) (wrc x)) + pc T i ≤ pc T j ∧ (opn x = true → pb (wrc x) + pc T i = pc T j → isW T [kOr, kAnd] j = false)
abbrev QK (T : List Tok) (wr : Syn → List UInt8) (k l i : Nat) (x : Syn) (j : Nat) : Prop := pb (par (decide (lvl k x < l)) (wr x)) + pc T i ≤ pc T j
theorem par_up {k l m : Nat} {x : Syn} {s : List UInt8} (h : l ≤ m) : pb (par (decide (lvl k x < l)) s) ≤ pb (par (decide (lvl k x < m)) s) := by
  rw [pb_par, pb_par]
  by_cases h1 : lvl k x < l
  · rw [decide_eq_true h1, decide_eq_true (show lvl k x < m by omega)]; simp
  · rw [decide_eq_false h1]; simp
theorem par_ge {b : Bool} {s : List UInt8} : pb s ≤ pb (par b s) := by rw [pb_par]; omega
theorem par_le {b : Bool} {s : List UInt8} : pb (par b s) ≤ 1 + pb s := by rw [pb_par]; cases b <;> simp
theorem QS.weak {l m : Nat} {x : Syn} {j : Nat} (h : QS T m i x j) (hl : l ≤ m) : QS T l i x j := ⟨by have := par_up (k := 0) (x := x) (s := wrc x) hl; have := h.1; omega, h.2⟩
theorem QK.weak {wr : Syn → List UInt8} {k l m : Nat} {x : Syn} {j : Nat} (h : QK T wr k m i x j) (hl : l ≤ m) : QK T wr k l i x j := by have := par_up (k := k) (x := x) (s := wr x) hl; have h' : _ ≤ _ := h; show _ ≤ _; omega
theorem opn_nil {k : Int} {t : List UInt8} {n p : Int} (h : k ≠ 13) : opn (.mk k t n p []) = false := by simp [opn, h]
theorem name_s (hA : TT C T) : WO (fun x j => isNm x = true ∧ (∃ t p, x = .mk 8 t 0 p []) ∧ pc T i ≤ pc T j) (name reservedB T i) := by
  have h := name_w hA (i := i)
  unfold name at h ⊢
  split at h
  · rename_i hc; rw [if_pos hc]; trivial
  · rename_i hc
    rw [if_neg hc]
    have h0 : (tk T i).kind = 0 := by by_cases e : (tk T i).kind = 0; exact e; exact absurd (Or.inl e) hc
    refine ⟨h.1, ⟨_, _, rfl⟩, ?_⟩
    rw [hA.nxt i (by rw [h0]; decide)]
    exact pc_mono T i
theorem number_s (hA : TT C T) : WO (fun x j => isNum x = true ∧ pc T i ≤ pc T j) (number T i) := by
  have h := number_w hA (i := i)
  unfold number at h ⊢
  split at h
  · rename_i hc; rw [if_pos hc]; trivial
  · rename_i hc
    rw [if_neg hc]
    have h1 : (tk T i).kind = 1 := by by_cases e : (tk T i).kind = 1; exact e; exact absurd e hc
    refine ⟨h.1, ?_⟩
    rw [hA.nxt i (by rw [h1]; decide)]
    exact pc_mono T i
theorem need_s {w : List UInt8} (hA : TT C T) : WO (fun _ j => pc T i ≤ pc T j) (need T w i) := by
  have h := need_w hA (w := w) (i := i)
  cases hn : need T w i with
  | none => trivial
  | err => trivial
  | ok a j => rw [hn] at h; obtain rfl : j = i + 1 := h; exact pc_mono T i
theorem open_s (hA : TT C T) : WO (fun _ j => pc T i + 1 ≤ pc T j) (need T [40] i) := by
  have h := need_w hA (w := [40]) (i := i)
  cases hn : need T [40] i with
  | none => trivial
  | err => trivial
  | ok a j =>
    rw [hn] at h
    obtain rfl : j = i + 1 := h
    unfold need at hn
    split at hn
    · rename_i hw
      obtain ⟨h1, h2⟩ := isW_w hw
      exact pc_open h1 (by simpa using h2)
    · cases hn
theorem word_s {ws : List (List UInt8)} (hA : TT C T) (h : isW T ws i = true) : pc T i ≤ pc T (nx T i) := by
  rw [hA.nxt i (isW_w h).1]; exact pc_mono T i
theorem within_s {P : Syn → Nat → Prop} {r : Rd} (h : ∀ lv, WO P (r lv i)) : WO P (within T r lv i) := by
  unfold within
  split
  · trivial
  · exact h _
theorem parens_s {P : Nat → Syn → Nat → Prop} {m : Syn → Nat} {r : Rd} (hA : TT C T) (h : ∀ lv i, WO (P i) (r lv i)) (hP : ∀ i x j, P i x j → m x + pc T i ≤ pc T j) : WO (fun x j => m x + 1 + pc T i ≤ pc T j) (parens T r lv i) :=
  (open_s hA).bind fun _ j hj => (within_s fun lv => h lv j).bind fun x k hx => (need_s hA).bind fun _ l hl => by
    show _ ≤ _
    have := hP _ _ _ hx
    omega
inductive AllM (T : List Tok) : List Rd → List (Syn → Nat) → Prop
  | nil : AllM T [] []
  | cons {r : Rd} {rs : List Rd} {m : Syn → Nat} {ms : List (Syn → Nat)} (h : ∀ lv i, WO (fun x j => m x + pc T i ≤ pc T j) (r lv i)) (ht : AllM T rs ms) : AllM T (r :: rs) (m :: ms)
inductive SumM : List Syn → List (Syn → Nat) → Nat → Prop
  | nil : SumM [] [] 0
  | cons {x : Syn} {xs : List Syn} {m : Syn → Nat} {ms : List (Syn → Nat)} {n : Nat} (ht : SumM xs ms n) : SumM (x :: xs) (m :: ms) (m x + n)
theorem argsMore_s {rs : List Rd} {ms : List (Syn → Nat)} (hA : TT C T) (hr : AllM T rs ms) : ∀ i, WO (fun xs j => ∃ n, SumM xs ms n ∧ n + pc T i ≤ pc T j) (argsGo.argsMore T rs lv i) := by
  induction hr with
  | nil => intro i; exact ⟨0, .nil, by omega⟩
  | cons h ht ih =>
    intro i
    exact (need_s hA).bind fun _ j hj => (h _ _).bind fun x k hx => (ih _).bind fun xs l ⟨n, h1, h2⟩ => ⟨_, .cons h1, by omega⟩
theorem argsGo_s {rs : List Rd} {ms : List (Syn → Nat)} (hA : TT C T) (hr : AllM T rs ms) : WO (fun xs j => ∃ n, SumM xs ms n ∧ n + pc T i ≤ pc T j) (argsGo T rs lv i) := by
  cases hr with
  | nil => exact ⟨0, .nil, by omega⟩
  | cons h ht => exact (h _ _).bind fun x k hx => (argsMore_s hA ht _).bind fun xs l ⟨n, h1, h2⟩ => ⟨_, .cons h1, by omega⟩
theorem arguments_s {rs : List Rd} {ms : List (Syn → Nat)} {w : Tok} (hA : TT C T) (hr : AllM T rs ms) :
    WO (fun x j => ∃ xs n, x = .mk 10 w.text 0 w.pos xs ∧ SumM xs ms n ∧ n + 1 + pc T i ≤ pc T j) (arguments T w rs lv i) := (open_s hA).bind fun _ j hj => by
  split
  · trivial
  · exact (argsGo_s hA hr).bind fun xs k ⟨n, h1, h2⟩ => (need_s hA).bind fun _ l hl => ⟨xs, n, rfl, h1, by omega⟩
theorem sum1 {xs : List Syn} {m : Syn → Nat} {n : Nat} (h : SumM xs [m] n) : ∃ x, xs = [x] ∧ n = m x := by
  cases h with
  | cons ht => cases ht; exact ⟨_, rfl, rfl⟩
theorem sum2 {xs : List Syn} {m m' : Syn → Nat} {n : Nat} (h : SumM xs [m, m'] n) : ∃ x y, xs = [x, y] ∧ n = m x + m' y := by
  cases h with
  | cons ht => cases ht with | cons ht => cases ht; exact ⟨_, _, rfl, rfl⟩
theorem m1 {r : Rd} {m : Syn → Nat} (h : ∀ lv i, WO (fun x j => m x + pc T i ≤ pc T j) (r lv i)) : AllM T [r] [m] := .cons h .nil
theorem m2 {r q : Rd} {m m' : Syn → Nat} (h : ∀ lv i, WO (fun x j => m x + pc T i ≤ pc T j) (r lv i)) (h' : ∀ lv i, WO (fun x j => m' x + pc T i ≤ pc T j) (q lv i)) : AllM T [r, q] [m, m'] := .cons h (.cons h' .nil)
theorem bin_c {op : List UInt8} {x y : Syn} {k k' l j : Nat} (hpo : pb op = 0) (hx : pb (par (looseB op x || decide (lvl 0 x < lft 0 op)) (wrc x)) + pc T i ≤ pc T k) (hk : pc T k ≤ pc T k') (hy : QS T (rgt 0 op) k' y j) (hl : l ≤ own 0 op) :
    QS T l i (binary op 0 x y) j := by
  have e : pb (wrc (binary op 0 x y)) = pb (par (looseB op x || decide (lvl 0 x < lft 0 op)) (wrc x)) + pb (par (decide (lvl 0 y < rgt 0 op)) (wrc y)) := by
    rw [binary, wrc, if_neg (by decide), if_neg (by decide), pb_app, pb_cons, pb_app, pb_cons, hpo]
    simp
  have hlv : lvl 0 (binary op 0 x y) = own 0 op := by simp [lvl, binary, Syn.kind, Syn.text]
  have hy1 := hy.1
  refine ⟨?_, fun ho he => ?_⟩
  · rw [hlv, decide_eq_false (show ¬ own 0 op < l by omega)]
    show pb (wrc _) + _ ≤ _
    omega
  · rw [binary, opn, if_neg (by decide)] at ho
    simp only [Bool.and_eq_true, decide_eq_true_eq] at ho
    refine hy.2 ho.2 ?_
    generalize pb (par (looseB op x || decide (lvl 0 x < lft 0 op)) (wrc x)) = A at hx e
    rw [decide_eq_false (show ¬ lvl 0 y < rgt 0 op by omega), show par false (wrc y) = wrc y from rfl] at e hy1
    omega
theorem isW_memS {ws vs : List (List UInt8)} (h : isW T ws i = true) (hv : (tk T i).text ∈ vs) : isW T vs i = true := by
  unfold isW at h ⊢
  rw [Bool.and_eq_true] at h ⊢
  exact ⟨h.1, List.contains_iff_mem.2 hv⟩
theorem loose_word {op : List UInt8} {x : Syn} (h : looseB op x = true) : (op = kOr ∨ op = kAnd) ∧ opn x = true := by
  unfold looseB at h
  simpa using h
theorem leftLoop_c {r : Rd} {ops : List (List UInt8)} {o : Nat} {E : Nat → Prop} (hA : TT C T) (ho : ∀ op ∈ ops, pb op = 0 ∧ own 0 op = o ∧ lft 0 op = o ∧ rgt 0 op = o + 1)
    (h : ∀ lv i, WO (fun x j => QS T (o + 1) i x j ∧ E j) (r lv i)) (g : Nat) : ∀ x k, QS T o i x k → E k → WO (fun x j => QS T o i x j ∧ isW T ops j = false ∧ E j) (leftLoop T r ops lv g x k) := by
  induction g with
  | zero => intro x k _ _; trivial
  | succ g ih =>
    intro x k hx hE
    unfold leftLoop
    split
    · rename_i hw
      obtain ⟨h1, h2⟩ := isW_w hw
      obtain ⟨a1, a2, a3, a4⟩ := ho _ h2
      refine (h _ _).bind fun y l hy => ih _ _ (bin_c a1 ?_ (word_s hA hw) (by rw [a4]; exact hy.1) (by omega)) hy.2
      have hx1 := hx.1
      rw [pb_par] at hx1 ⊢
      by_cases hl : lvl 0 x < o
      · rw [a3, decide_eq_true hl, Bool.or_true]
        rw [decide_eq_true hl] at hx1
        exact hx1
      · rw [a3, decide_eq_false hl, Bool.or_false]
        rw [decide_eq_false hl] at hx1
        simp only [Bool.false_eq_true, if_false, Nat.zero_add] at hx1
        cases hlo : looseB (tk T k).text x with
        | false => simpa using hx1
        | true =>
          obtain ⟨b1, b2⟩ := loose_word hlo
          have hne : ¬ pb (wrc x) + pc T i = pc T k := fun e => by
            have := hx.2 b2 e
            rw [isW_memS hw (by rcases b1 with b1 | b1 <;> simp [b1])] at this
            cases this
          simp only [if_true]
          omega
    · rename_i hw
      exact ⟨hx, by simpa using hw, hE⟩
theorem left_c {r : Rd} {ops : List (List UInt8)} {o : Nat} {E : Nat → Prop} (hA : TT C T) (ho : ∀ op ∈ ops, pb op = 0 ∧ own 0 op = o ∧ lft 0 op = o ∧ rgt 0 op = o + 1)
    (h : ∀ lv i, WO (fun x j => QS T (o + 1) i x j ∧ E j) (r lv i)) : WO (fun x j => QS T o i x j ∧ isW T ops j = false ∧ E j) (left T r ops lv i) :=
  (h _ _).bind fun x k hx => leftLoop_c hA ho h _ _ _ (hx.1.weak (Nat.le_succ _)) hx.2
theorem bin_s {op : List UInt8} {n : Int} {x y : Syn} {k k' l j : Nat} (hpo : pb op = 0) (hx : QK T wrs 1 (lft 1 op) i x k) (hk : pc T k ≤ pc T k') (hy : QK T wrs 1 (rgt 1 op) k' y j) (hl : l ≤ own 1 op) : QK T wrs 1 l i (binary op n x y) j := by
  have e : pb (wrs (binary op n x y)) = pb (par (decide (lvl 1 x < lft 1 op)) (wrs x)) + pb (par (decide (lvl 1 y < rgt 1 op)) (wrs y)) := by
    have : pb (if op = kThen then dec n.toNat ++ [32] else []) = 0 := by split <;> simp [pb_app, pb_dec, pb_cons, pb_nil]
    rw [binary, wrs, pb_app, pb_cons, pb_app, pb_cons, pb_app, hpo, this]
    simp
  have hlv : lvl 1 (binary op n x y) = own 1 op := by simp [lvl, binary, Syn.kind, Syn.text]
  show _ ≤ _
  rw [hlv, decide_eq_false (show ¬ own 1 op < l by omega)]
  show pb (wrs _) + _ ≤ _
  have hx' : _ ≤ _ := hx
  have hy' : _ ≤ _ := hy
  omega
theorem bin_f {op : List UInt8} {n : Int} {x y : Syn} {k k' l j : Nat} (hpo : pb op = 0) (hx : QK T wrf 2 (lft 2 op) i x k) (hk : pc T k ≤ pc T k') (hy : QK T wrf 2 (rgt 2 op) k' y j) (hl : l ≤ own 2 op) : QK T wrf 2 l i (binary op n x y) j := by
  have e : pb (wrf (binary op n x y)) = pb (par (decide (lvl 2 x < lft 2 op)) (wrf x)) + pb (par (decide (lvl 2 y < rgt 2 op)) (wrf y)) := by
    rw [binary, wrf, if_neg (by decide), pb_app, pb_cons, pb_app, pb_cons, hpo]
    simp
  have hlv : lvl 2 (binary op n x y) = own 2 op := by simp [lvl, binary, Syn.kind, Syn.text]
  show _ ≤ _
  rw [hlv, decide_eq_false (show ¬ own 2 op < l by omega)]
  show pb (wrf _) + _ ≤ _
  have hx' : _ ≤ _ := hx
  have hy' : _ ≤ _ := hy
  omega
theorem left_q {wr : Syn → List UInt8} {kd : Nat} {r : Rd} {ops : List (List UInt8)} {o : Nat} (hA : TT C T) (h : ∀ lv i, WO (QK T wr kd (o + 1) i) (r lv i))
    (hb : ∀ op ∈ ops, ∀ x y k k' j, QK T wr kd o i x k → pc T k ≤ pc T k' → QK T wr kd (o + 1) k' y j → QK T wr kd o i (binary op 0 x y) j) : WO (QK T wr kd o i) (left T r ops lv i) := by
  have loop : ∀ g x k, QK T wr kd o i x k → WO (QK T wr kd o i) (leftLoop T r ops lv g x k) := by
    intro g
    induction g with
    | zero => intro x k _; trivial
    | succ g ih =>
      intro x k hx
      unfold leftLoop
      split
      · rename_i hw
        exact (h _ _).bind fun y l hy => ih _ _ (hb _ (isW_w hw).2 _ _ _ _ _ hx (word_s hA hw) hy)
      · exact hx
  exact (h _ _).bind fun x k hx => loop _ _ _ (QK.weak hx (Nat.le_succ _))
def PN (T : List Tok) : NT → Nat → Syn → Nat → Prop
  | .cond, i, x, j => QS T 0 i x j ∧ isW T [kOr] j = false ∧ isW T [kAnd] j = false
  | .conj, i, x, j => QS T 1 i x j ∧ isW T [kAnd] j = false
  | .neg, i, x, j => QS T 2 i x j
  | .sum, i, x, j => QS T 4 i x j
  | .unit, i, x, j => QS T 5 i x j
  | .scheme, i, x, j => QK T wrs 1 0 i x j
  | .term, i, x, j => QK T wrs 1 1 i x j
  | .factor, i, x, j => QK T wrs 1 2 i x j
  | .atom, i, x, j => QK T wrs 1 5 i x j
  | .formula, i, x, j => QK T wrf 2 0 i x j
  | .disj, i, x, j => QK T wrf 2 1 i x j
  | .meet, i, x, j => QK T wrf 2 2 i x j
  | .lit, i, x, j => QK T wrf 2 5 i x j
theorem no_words (h : isW T [kOr] i = false) (h' : isW T [kAnd] i = false) : isW T [kOr, kAnd] i = false := by
  cases hw : isW T [kOr, kAnd] i with
  | false => rfl
  | true =>
    have h2 := (isW_w hw).2
    simp only [List.mem_cons, List.not_mem_nil, or_false] at h2
    rcases h2 with h2 | h2
    · rw [isW_memS hw (by simp [h2])] at h; cases h
    · rw [isW_memS hw (by simp [h2])] at h'; cases h'
theorem plain_c {l j : Nat} {x : Syn} (hl : 5 ≤ lvl 0 x) (h5 : l ≤ 5) (ho : opn x = false) (h : pb (wrc x) + pc T i ≤ pc T j) : QS T l i x j :=
  ⟨by rw [decide_eq_false (show ¬ lvl 0 x < l by omega)]; exact h, fun e => by rw [ho] at e; cases e⟩
theorem rd_s (hA : TT C T) (f : Nat) : ∀ nt lv i, WO (PN T nt i) (rd reservedB T f nt lv i) := by
  have num : ∀ (lv i : Nat), WO (fun x j => pb (warg x) + pc T i ≤ pc T j) ((fun _ => number T) lv i) := fun _ _ => (number_s hA).to fun x j h => by
    show _ ≤ _
    rw [(pb_wnum h.1).2]; omega
  have numc : ∀ (lv i : Nat), WO (fun x j => pb (wrc x) + pc T i ≤ pc T j) ((fun _ => number T) lv i) := fun _ _ => (number_s hA).to fun x j h => by
    show _ ≤ _
    rw [(pb_wnum h.1).1]; omega
  have set : ∀ (lv i : Nat), WO (fun x j => pb (warg x) + pc T i ≤ pc T j) ((fun _ => setR T) lv i) := fun lv i => by
    have h := set_w hA (i := i)
    have hm : WO (fun _ j => pc T i ≤ pc T j) (setR T i) := by
      unfold setR
      split
      · rename_i hw; exact word_s hA hw
      · refine (need_s hA).bind fun _ j hj => ?_
        split
        · rename_i hw; have := word_s hA hw; show _ ≤ _; omega
        · refine (number_s hA).bind fun x k hk => ?_
          have loop : ∀ g xs k, pc T i ≤ pc T k → WO (fun _ j => pc T i ≤ pc T j) (setLoop T g xs k) := by
            intro g
            induction g with
            | zero => intro xs k _; trivial
            | succ g ih =>
              intro xs k hk
              unfold setLoop
              split
              · rename_i hw
                have := word_s hA hw
                exact (number_s hA).bind fun y l hl => ih _ _ (by have := hl.2; omega)
              · exact hk
          exact (loop _ _ _ (by have := hk.2; omega)).bind fun xs l hl => (need_s hA).bind fun _ m hm => by show _ ≤ _; omega
    show WO _ (setR T i)
    cases hs : setR T i with
    | none => trivial
    | err => trivial
    | ok x j =>
      rw [hs] at h hm
      show _ ≤ _
      have hm : _ ≤ _ := hm
      rw [pb_wset h.1]; omega
  induction f with
  | zero => intro nt lv i; trivial
  | succ f ih =>
    intro nt lv i
    cases nt with
    | cond =>
      refine (left_c (o := 0) (E := fun j => isW T [kAnd] j = false) hA (fun op ho => by rw [List.mem_singleton.1 ho]; decide) (fun lv i => (ih .conj lv i))).to fun x j h => ⟨h.1, h.2.1, h.2.2⟩
    | conj =>
      refine (left_c (o := 1) (E := fun _ => True) hA (fun op ho => by rw [List.mem_singleton.1 ho]; decide) (fun lv i => (ih .neg lv i).to fun x j h => ⟨h, trivial⟩)).to fun x j h => ⟨h.1, h.2.1⟩
    | sum =>
      refine (left_c (o := 4) (E := fun _ => True) hA (fun op ho => by
        rcases List.mem_cons.1 ho with rfl | ho
        · decide
        · rw [List.mem_singleton.1 ho]; decide) (fun lv i => (ih .unit lv i).to fun x j h => ⟨h, trivial⟩)).to fun x j h => h.1
    | scheme => exact left_q (o := 0) hA (fun lv i => ih .term lv i) (fun op ho x y k k' j hx hk hy => by
        rw [List.mem_singleton.1 ho]; exact bin_s (by decide) hx hk hy (by decide))
    | term => exact left_q (o := 1) hA (fun lv i => ih .factor lv i) (fun op ho x y k k' j hx hk hy => by
        rw [List.mem_singleton.1 ho]; exact bin_s (by decide) hx hk hy (by decide))
    | disj => exact left_q (o := 1) hA (fun lv i => ih .meet lv i) (fun op ho x y k k' j hx hk hy => by
        rw [List.mem_singleton.1 ho]; exact bin_f (by decide) hx hk hy (by decide))
    | meet => exact left_q (o := 2) hA (fun lv i => (ih .lit lv i).to fun x j h => QK.weak h (by decide)) (fun op ho x y k k' j hx hk hy => by
        rw [List.mem_singleton.1 ho]; exact bin_f (by decide) hx hk hy (by decide))
    | neg =>
      rw [rd]
      dsimp only
      split
      · rename_i hw
        have h0 := word_s hA hw
        unfold notR
        refine (within_s fun lv => ih .neg lv _).bind fun x j hx => ?_
        have hx : QS T 2 _ x j := hx
        have h1 := hx.1
        have e : pb (wrc (.mk 12 [] 0 (tk T i).pos [x])) = pb (par (decide (lvl 0 x < 2)) (wrc x)) := by
          rw [wrc, if_pos rfl, pb_app, pb_cons, show pb kNot = 0 by decide]; simp
        refine ⟨?_, fun ho he => ?_⟩
        · rw [show decide (lvl 0 (.mk 12 [] 0 (tk T i).pos [x]) < 2) = false from rfl]
          show pb (wrc _) + _ ≤ _
          omega
        · rw [opn, if_neg (by decide)] at ho
          simp only [Bool.and_eq_true, decide_eq_true_eq] at ho
          refine hx.2 ho.2 ?_
          have := par_ge (b := decide (lvl 0 x < 2)) (s := wrc x)
          rw [decide_eq_false (show ¬ lvl 0 x < 2 by omega), show par false (wrc x) = wrc x from rfl] at e h1
          omega
      split
      · rename_i hw
        have h0 := word_s hA hw
        have hw := isW_w hw
        refine (name_s hA).bind fun v j hv => (need_s hA).bind fun _ k hk => (within_s fun lv => ih .cond lv _).bind fun x l hx => ?_
        obtain ⟨hx, hx1, hx2⟩ : QS T 0 k x l ∧ _ ∧ _ := hx
        have hv1 := pb_nm hv.1
        have hv2 := hv.2.2
        have ht : (tk T i).text = kAll ∨ (tk T i).text = kSome := by simpa using hw.2
        have htp : pb (tk T i).text = 0 := by rcases ht with ht | ht <;> rw [ht] <;> decide
        have htc : ¬ (tk T i).text = kCount := by rcases ht with ht | ht <;> rw [ht] <;> decide
        have e : pb (wrc (.mk 13 (tk T i).text 0 (tk T i).pos [v, x])) = pb (wrc x) := by
          rw [wrc, if_pos rfl, if_neg htc, pb_app, pb_cons, pb_app, pb_cons, pb_cons, htp, hv1]; simp
        have h1 := hx.1
        rw [show decide (lvl 0 x < 0) = false from rfl] at h1
        refine ⟨?_, fun _ _ => no_words hx1 hx2⟩
        rw [show decide (lvl 0 (.mk 13 (tk T i).text 0 (tk T i).pos [v, x]) < 2) = false by simp [lvl, Syn.kind, Syn.text, htc]]
        show pb (wrc _) + _ ≤ _
        have h1 : pb (wrc x) + _ ≤ _ := h1
        omega
      · refine (ih .sum _ _).bind fun x j hx => ?_
        have hx : QS T 4 i x j := hx
        split
        · rename_i hw
          have h0 := word_s hA hw
          have hw := isW_w hw
          refine (ih .sum _ _).bind fun y l hy => ?_
          have h2 := hw.2
          simp only [List.mem_cons, List.not_mem_nil, or_false] at h2
          have ho : pb (tk T j).text = 0 ∧ own 0 (tk T j).text = 3 ∧ lft 0 (tk T j).text = 4 ∧ rgt 0 (tk T j).text = 4 ∧ looseB (tk T j).text x = false := by
            rcases h2 with h2 | h2 | h2 | h2 <;> rw [h2] <;> exact ⟨by decide, by decide, by decide, by decide, rfl⟩
          obtain ⟨a1, a2, a3, a4, a5⟩ := ho
          exact bin_c a1 (by rw [a5, a3, Bool.false_or]; exact hx.1) h0 (by rw [a4]; exact hy) (by omega)
        · exact hx.weak (by decide)
    | unit =>
      rw [rd]
      dsimp only
      split
      · refine (number_s hA).to fun x j hx => ?_
        have h1 := (pb_wnum hx.1).1
        rcases x with ⟨k, t, n, p, _ | ⟨a, l⟩⟩
        · have hk : k = 9 := by have := hx.1; unfold isNum at this; simp only [Bool.and_eq_true] at this; exact of_decide_eq_true this.1.1.1
          subst hk
          exact plain_c (by simp [lvl, Syn.kind]) (Nat.le_refl _) (opn_nil (by decide)) (by have := hx.2; omega)
        · have := hx.1; simp [isNum, Syn.kids] at this
      split
      · rename_i hw
        have h0 := word_s hA hw
        have hw := isW_w hw
        refine (arguments_s hA (m1 (m := fun x => pb (par (decide (lvl 0 x < 4)) (wrc x))) (fun lv i => (ih .sum lv i).to fun x j h => h.1))).to fun z j ⟨xs, n, hz, hs, hn⟩ => ?_
        obtain ⟨x, rfl, rfl⟩ := sum1 hs
        have ht : (tk T i).text = kIn ∨ (tk T i).text = kOut := by simpa using hw.2
        have htp : pb (tk T i).text = 0 := by rcases ht with ht | ht <;> rw [ht] <;> decide
        subst hz
        refine plain_c (by simp [lvl, Syn.kind]) (Nat.le_refl _) (by rw [opn, if_neg (by decide)]; rfl) ?_
        rw [wrc, if_neg (by decide), pb_app, pb_cons, pb_app, htp]
        simp only [pb_cons, pb_nil]
        simp
        omega
      split
      · rename_i hw
        have h0 := word_s hA hw
        have hw := isW_w hw
        refine (arguments_s hA (m2 (m := fun x => pb (par (decide (lvl 0 x < 4)) (wrc x))) (m' := fun x => pb (par (decide (lvl 0 x < 4)) (wrc x))) (fun lv i => (ih .sum lv i).to fun x j h => h.1) (fun lv i => (ih .sum lv i).to fun x j h => h.1))).to fun z j ⟨xs, n, hz, hs, hn⟩ => ?_
        obtain ⟨x, y, rfl, rfl⟩ := sum2 hs
        have ht : (tk T i).text = kHears := by simpa using hw.2
        have htp : pb (tk T i).text = 0 := by rw [ht]; decide
        subst hz
        refine plain_c (by simp [lvl, Syn.kind]) (Nat.le_refl _) (by rw [opn, if_neg (by decide)]; rfl) ?_
        rw [wrc, if_neg (by decide), if_pos rfl, pb_app, pb_cons, pb_app, pb_cons, pb_cons, pb_app, htp]
        simp only [pb_cons, pb_nil]
        simp
        omega
      split
      · rename_i hw
        have h0 := word_s hA hw
        have hw := isW_w hw
        refine (name_s hA).bind fun v j hv => (parens_s (m := fun x => pb (wrc x)) hA (fun lv i => ih .cond lv i) (fun i x j h => (QS.weak (T := T) h.1 (Nat.zero_le _)).1)).bind fun x l hx => ?_
        have hv1 := pb_nm hv.1
        have hv2 := hv.2.2
        have ht : (tk T i).text = kCount := by simpa using hw.2
        refine plain_c (by simp [lvl, Syn.kind, Syn.text, ht]) (Nat.le_refl _) (by rw [opn, if_pos rfl, ht]; rfl) ?_
        rw [wrc, if_pos rfl, if_pos ht, pb_app, pb_cons, pb_app, pb_cons, pb_par, ht, hv1, show pb kCount = 0 by decide]
        have hx : pb (wrc x) + 1 + _ ≤ _ := hx
        simp
        omega
      split
      · refine (parens_s (m := fun x => pb (wrc x)) hA (fun lv i => ih .cond lv i) (fun i x j h => (QS.weak (T := T) h.1 (Nat.zero_le _)).1)).to fun x j hx => ?_
        have hx : pb (wrc x) + 1 + _ ≤ _ := hx
        exact ⟨by have := par_le (b := decide (lvl 0 x < 5)) (s := wrc x); omega, fun _ e => by omega⟩
      · refine (name_s hA).to fun x j hx => ?_
        have h1 := pb_nm hx.1
        obtain ⟨t, p, rfl⟩ := hx.2.1
        have h2 := hx.2.2
        have h1 : pb t = 0 := h1
        exact plain_c (by simp [lvl, Syn.kind]) (Nat.le_refl _) (opn_nil (by decide)) (by rw [wrc, if_neg (by decide)]; omega)
    | factor =>
      rw [rd]
      dsimp only
      refine (ih .atom _ _).bind fun x j hx => ?_
      have hx : QK T wrs 1 5 i x j := hx
      split
      · rename_i hw
        have h0 := word_s hA hw
        refine (number_s hA).bind fun n k hn => (within_s fun lv => ih .factor lv _).bind fun y l hy => ?_
        have hy : QK T wrs 1 2 k y l := hy
        exact bin_s (k := j) (k' := k) (by decide) (QK.weak hx (by decide)) (by have := hn.2; omega) hy (by decide)
      · exact QK.weak hx (by decide)
    | atom =>
      rw [rd]
      dsimp only
      have big : ∀ {t : List UInt8} {p : Int} {xs : List Syn} {j : Nat}, pb (wrs (.mk 10 t 0 p xs)) + pc T i ≤ pc T j → QK T wrs 1 5 i (.mk 10 t 0 p xs) j := fun h => by
        show _ ≤ _
        rw [show ∀ (t : List UInt8) (p : Int) (xs : List Syn), decide (lvl 1 (.mk 10 t 0 p xs) < 5) = false from fun _ _ _ => by simp [lvl, Syn.kind]]
        exact h
      split
      · rename_i hw
        have h0 := word_s hA hw
        have hw := isW_w hw
        refine (arguments_s hA (m1 numc)).to fun z j ⟨xs, n, hz, hs, hn⟩ => ?_
        obtain ⟨x, rfl, rfl⟩ := sum1 hs
        have ht := hw.2
        simp only [List.mem_cons, List.not_mem_nil, or_false] at ht
        have htp : pb (tk T i).text = 0 := by rcases ht with ht | ht | ht | ht | ht <;> rw [ht] <;> decide
        subst hz
        refine big ?_
        rw [wrs, pb_app, pb_cons, pb_app, htp]
        simp only [pb_cons, pb_nil]
        simp
        omega
      split
      · rename_i hw
        have h0 := word_s hA hw
        have ht : (tk T i).text = kSnap := by simpa using (isW_w hw).2
        refine big ?_
        rw [wrs, ht, show pb kSnap = 0 by decide]; omega
      split
      · rename_i hw
        have h0 := word_s hA hw
        have hw := isW_w hw
        refine (arguments_s hA (m1 (m := fun x => pb (wrc x)) (fun lv i => (ih .cond lv i).to fun x j h => (QS.weak (T := T) h.1 (Nat.zero_le _)).1))).to fun z j ⟨xs, n, hz, hs, hn⟩ => ?_
        obtain ⟨x, rfl, rfl⟩ := sum1 hs
        have ht : (tk T i).text = kGraphs := by simpa using hw.2
        have htp : pb (tk T i).text = 0 := by rw [ht]; decide
        subst hz
        refine big ?_
        rw [wrs, pb_app, pb_cons, pb_app, htp]
        simp only [pb_cons, pb_nil]
        simp
        omega
      split
      · refine (parens_s (m := fun x => pb (wrs x)) hA (fun lv i => ih .scheme lv i) (fun i x j h => QK.weak (T := T) h (Nat.zero_le _))).to fun x j hx => ?_
        have hx : pb (wrs x) + 1 + _ ≤ _ := hx
        show _ ≤ _
        have := par_le (b := decide (lvl 1 x < 5)) (s := wrs x); omega
      · refine (name_s hA).to fun x j hx => ?_
        have h1 := pb_nm hx.1
        obtain ⟨t, p, rfl⟩ := hx.2.1
        have h2 := hx.2.2
        have h1 : pb t = 0 := h1
        show _ ≤ _
        rw [show decide (lvl 1 (.mk 8 t 0 p []) < 5) = false by simp [lvl, Syn.kind]]
        show pb (wrs _) + _ ≤ _
        rw [wrs]; omega
    | formula =>
      rw [rd]
      dsimp only
      refine (ih .disj _ _).bind fun x j hx => ?_
      have hx : QK T wrf 2 1 i x j := hx
      split
      · rename_i hw
        have h0 := word_s hA hw
        refine (within_s fun lv => ih .formula lv _).bind fun y l hy => ?_
        exact bin_f (by decide) (QK.weak hx (by decide)) h0 (QK.weak hy (by decide)) (by decide)
      · exact QK.weak hx (by decide)
    | lit =>
      rw [rd]
      dsimp only
      have big : ∀ {k : Int} {t : List UInt8} {p : Int} {xs : List Syn} {j : Nat}, k ≠ 11 → pb (wrf (.mk k t 0 p xs)) + pc T i ≤ pc T j → QK T wrf 2 5 i (.mk k t 0 p xs) j := fun {k t p xs j} hk h => by
        show _ ≤ _
        rw [show decide (lvl 2 (.mk k t 0 p xs) < 5) = false from by simp [lvl, Syn.kind, hk]]
        exact h
      split
      · rename_i hw
        have h0 := word_s hA hw
        unfold notR
        refine (within_s fun lv => ih .lit lv _).bind fun x j hx => ?_
        have hx : QK T wrf 2 3 _ x j := QK.weak hx (by decide)
        have h1 : pb (par (decide (lvl 2 x < 3)) (wrf x)) + _ ≤ _ := hx
        refine big (by decide) ?_
        rw [wrf, if_pos rfl, pb_app, pb_cons, show pb kNot = 0 by decide]
        simp
        omega
      split
      · rename_i hw
        have h0 := word_s hA hw
        have ht : (tk T i).text = kTrue := by simpa using (isW_w hw).2
        refine big (by decide) ?_
        rw [wrf, ht, show pb kTrue = 0 by decide]; omega
      split
      · refine (parens_s (m := fun x => pb (wrf x)) hA (fun lv i => ih .formula lv i) (fun i x j h => QK.weak (T := T) h (Nat.zero_le _))).to fun x j hx => ?_
        have hx : pb (wrf x) + 1 + _ ≤ _ := hx
        show _ ≤ _
        have := par_le (b := decide (lvl 2 x < 5)) (s := wrf x); omega
      split
      · rename_i hw
        have h0 := word_s hA hw
        have hw := isW_w hw
        refine (arguments_s hA (m2 num num)).to fun z j ⟨xs, n, hz, hs, hn⟩ => ?_
        obtain ⟨x, y, rfl, rfl⟩ := sum2 hs
        have hc : ftwo.contains (tk T i).text = true := List.contains_iff_mem.2 hw.2
        have ht := hw.2
        simp only [List.mem_cons, List.not_mem_nil, or_false] at ht
        have htp : pb (tk T i).text = 0 := by rcases ht with ht | ht | ht <;> rw [ht] <;> decide
        subst hz
        refine big (by decide) ?_
        rw [wrf, if_pos rfl, if_pos hc, pb_app, pb_cons, pb_app, pb_cons, pb_cons, pb_app, htp]
        simp only [pb_cons, pb_nil]
        simp
        omega
      split
      · rename_i hw
        have h0 := word_s hA hw
        have hw := isW_w hw
        refine (arguments_s hA (m1 num)).to fun z j ⟨xs, n, hz, hs, hn⟩ => ?_
        obtain ⟨x, rfl, rfl⟩ := sum1 hs
        have hc : fone.contains (tk T i).text = true := List.contains_iff_mem.2 hw.2
        have ht := hw.2
        simp only [List.mem_cons, List.not_mem_nil, or_false] at ht
        have htp : pb (tk T i).text = 0 := by rcases ht with ht | ht | ht <;> rw [ht] <;> decide
        subst hz
        refine big (by decide) ?_
        rw [wrf, if_neg (by decide), if_pos hc, pb_app, pb_cons, pb_app, htp]
        simp only [pb_cons, pb_nil]
        simp
        omega
      split
      · rename_i hw
        have h0 := word_s hA hw
        have hw := isW_w hw
        refine (arguments_s hA (m2 (m' := fun x => pb (wrf x)) num (fun lv i => (ih .formula lv i).to fun x j h => QK.weak (T := T) h (Nat.zero_le _)))).to fun z j ⟨xs, n, hz, hs, hn⟩ => ?_
        obtain ⟨x, y, rfl, rfl⟩ := sum2 hs
        have ht : (tk T i).text = [75] := by simpa using hw.2
        subst hz
        refine big (by decide) ?_
        rw [ht, wrf, if_pos rfl, if_neg (by decide)]
        simp only [pb_app, pb_cons, pb_nil]
        simp
        omega
      split
      · rename_i hw
        have h0 := word_s hA hw
        have hw := isW_w hw
        refine (arguments_s hA (m2 (m' := fun x => pb (wrf x)) set (fun lv i => (ih .formula lv i).to fun x j h => QK.weak (T := T) h (Nat.zero_le _)))).to fun z j ⟨xs, n, hz, hs, hn⟩ => ?_
        obtain ⟨x, y, rfl, rfl⟩ := sum2 hs
        have ht := hw.2
        simp only [List.mem_cons, List.not_mem_nil, or_false] at ht
        have htp : pb (tk T i).text = 0 ∧ ¬ ftwo.contains (tk T i).text = true := by rcases ht with ht | ht | ht <;> rw [ht] <;> decide
        subst hz
        refine big (by decide) ?_
        rw [wrf, if_pos rfl, if_neg htp.2, pb_app, pb_cons, pb_app, pb_cons, pb_cons, pb_app, htp.1]
        simp only [pb_cons, pb_nil]
        simp
        omega
      split
      · rename_i hw
        have h0 := word_s hA hw
        have hw := isW_w hw
        refine (arguments_s hA (m1 (m := fun x => pb (wrf x)) (fun lv i => (ih .formula lv i).to fun x j h => QK.weak (T := T) h (Nat.zero_le _)))).to fun z j ⟨xs, n, hz, hs, hn⟩ => ?_
        obtain ⟨x, rfl, rfl⟩ := sum1 hs
        have ht := hw.2
        simp only [List.mem_cons, List.not_mem_nil, or_false] at ht
        have htp : pb (tk T i).text = 0 ∧ ¬ fone.contains (tk T i).text = true := by rcases ht with ht | ht | ht <;> rw [ht] <;> decide
        subst hz
        refine big (by decide) ?_
        rw [wrf, if_neg (by decide), if_neg htp.2, pb_app, pb_cons, pb_app, htp.1]
        simp only [pb_cons, pb_nil]
        simp
        omega
      · trivial
end
theorem scanGo_pb (f : Nat) : ∀ (p : Nat) (l : List UInt8) (ts : List Tok), scanGo f p l = .ok ts → ts.countP (fun t => t.text == [40]) ≤ pb l := by
  induction f with
  | zero => intro p l ts h; injection h with h; subst h; simp
  | succ f ih =>
    intro p l ts h
    unfold scanGo at h
    dsimp only at h
    have hs : pb (l.drop (skip false l)) ≤ pb l := by
      have := pb_app (l.take (skip false l)) (l.drop (skip false l))
      rw [List.take_append_drop] at this; omega
    split at h
    · injection h with h; subst h; simp
    · rename_i c r he
      rw [he] at hs
      split at h
      · cases h
      · rename_i kind n hk
        split at h
        · cases h
        · rename_i ts' ht
          injection h with h
          subst h
          have h1 := ih _ _ _ ht
          have h2 := pb_app ((c :: r).take n) ((c :: r).drop n)
          rw [List.take_append_drop] at h2
          rw [List.countP_cons]
          dsimp only
          by_cases e : (c :: r).take n = [40]
          · rw [e] at h2 ⊢
            have : pb [40] = 1 := rfl
            simp
            omega
          · rw [beq_eq_false_iff_ne.2 e]
            simp
            omega
end Go.Proofs.YtplbfmcgddnkeaaGreatDoor
end
section
namespace Go.Proofs.YtplbfmcgddnkeaaGreatDoor
def sepd (y : List UInt8) : Prop := ∀ b r, y = b :: r → isWordy b.toNat = false ∧ b ≠ 61
theorem sepd.fits {y x : List UInt8} (h : sepd y) : fits x y := fun c hc => by
  cases y with
  | nil => cases hc
  | cons b r =>
    obtain rfl : b = c := by simpa using hc
    exact ⟨fun _ => (h b r rfl).1, fun e => (h b r rfl).2 e.2⟩
def Spl (s : List UInt8) (K : List KT) : Prop := ∀ y B, sepd y → Lx y B → Lx (s ++ y) (K ++ B)
theorem Spl.then {s t : List UInt8} {K J : List KT} (h : Spl s K) (h' : Spl t J) (ht : ∀ y, sepd y → sepd (t ++ y)) : Spl (s ++ t) (K ++ J) := fun y B hs hy => by
  rw [List.append_assoc, List.append_assoc]
  exact h _ _ (ht y hs) (h' _ _ hs hy)
def ntc : Nat → NT | 0 => .cond | 1 => .conj | 2 => .neg | 4 => .sum | _ => .unit
def goC (m : Nat) : List (List (List UInt8)) := if m = 0 then [[kOr], [kAnd], cmps, sums] else if m = 1 then [[kAnd], cmps, sums] else if m = 2 then [cmps, sums] else if m = 4 then [sums] else []
def stopC (m : Nat) (c : KT) : Prop := ∀ ws ∈ goC m, noOp ws c
theorem stopC.le {m m' : Nat} {c : KT} (h : stopC m c) (hm : m = 0 ∨ m = 1 ∨ m = 2 ∨ m = 4 ∨ m = 5) (hm' : m' = 0 ∨ m' = 1 ∨ m' = 2 ∨ m' = 4 ∨ m' = 5) (hl : m ≤ m') : stopC m' c := fun ws hw => h ws (by
  rcases hm with rfl | rfl | rfl | rfl | rfl <;> rcases hm' with rfl | rfl | rfl | rfl | rfl <;> first | omega | (simp [goC] at hw; done) | exact hw | (simp [goC] at hw ⊢; first | done | exact hw | (subst hw; simp; done) | (rcases hw with rfl | rfl <;> simp; done) | (rcases hw with rfl | rfl | rfl <;> simp; done) | (rcases hw with rfl | rfl | rfl | rfl <;> simp; done)))
section
variable {U : List Tok} {f lv i L : Nat} {x : Syn} {A B : List KT} {c : KT}
abbrev R (U : List Tok) (f m : Nat) : Rd := rd reservedB U f (ntc m)
end
end Go.Proofs.YtplbfmcgddnkeaaGreatDoor
end
section
namespace Go.Proofs.YtplbfmcgddnkeaaGreatDoor
def nxt (p : Nat) : Nat := if p = 0 then 1 else if p = 1 then 2 else 5
section
variable {U : List Tok} {f lv i j L M : Nat} {x y a b : Syn} {A B K : List KT} {c d : KT} {r r' : Rd} {w : Tok} {t : List UInt8}
end
end Go.Proofs.YtplbfmcgddnkeaaGreatDoor
end
section
namespace Go.Proofs.YtplbfmcgddnkeaaGreatDoor
section
variable {U : List Tok}
end
end Go.Proofs.YtplbfmcgddnkeaaGreatDoor
end
section
namespace Go.Proofs.YtplbfmcgddnkeaaGreatDoor
def goS (m : Nat) : List (List (List UInt8)) := if m = 0 then [[kOr], [kAnd], [kThen]] else if m = 1 then [[kAnd], [kThen]] else if m = 2 then [[kThen]] else []
def stopS (m : Nat) (c : KT) : Prop := ∀ ws ∈ goS m, noOp ws c
theorem stopS.le {m m' : Nat} {c : KT} (h : stopS m c) (hm' : m' ≤ 3) (hl : m ≤ m') : stopS m' c := fun ws hw => h ws (by
  have hm : m = 0 ∨ m = 1 ∨ m = 2 ∨ m = 3 := by omega
  have hm' : m' = 0 ∨ m' = 1 ∨ m' = 2 ∨ m' = 3 := by omega
  rcases hm with rfl | rfl | rfl | rfl <;> rcases hm' with rfl | rfl | rfl | rfl <;> first | omega | (simp [goS] at hw; done) | exact hw | (simp [goS] at hw ⊢; first | done | exact hw | (subst hw; simp; done) | (rcases hw with rfl | rfl <;> simp; done)))
section
variable {U : List Tok} {f lv i L : Nat} {x a b : Syn} {A B : List KT} {c : KT} {t : List UInt8}
end
end Go.Proofs.YtplbfmcgddnkeaaGreatDoor
end
section
namespace Go.Proofs.YtplbfmcgddnkeaaGreatDoor
def goF (m : Nat) : List (List (List UInt8)) := if m = 0 then [[kUntil], [kOr], [kAnd]] else if m = 1 then [[kOr], [kAnd]] else if m = 2 then [[kAnd]] else []
def stopF (m : Nat) (c : KT) : Prop := ∀ ws ∈ goF m, noOp ws c
theorem stopF.le {m m' : Nat} {c : KT} (h : stopF m c) (hm' : m' ≤ 3) (hl : m ≤ m') : stopF m' c := fun ws hw => h ws (by
  have hm : m = 0 ∨ m = 1 ∨ m = 2 ∨ m = 3 := by omega
  have hm' : m' = 0 ∨ m' = 1 ∨ m' = 2 ∨ m' = 3 := by omega
  rcases hm with rfl | rfl | rfl | rfl <;> rcases hm' with rfl | rfl | rfl | rfl <;> first | omega | (simp [goF] at hw; done) | exact hw | (simp [goF] at hw ⊢; first | done | exact hw | (subst hw; simp; done) | (rcases hw with rfl | rfl <;> simp; done)))
section
variable {U : List Tok} {f lv i L : Nat} {x a b : Syn} {A B : List KT} {c : KT} {t : List UInt8}
end
end Go.Proofs.YtplbfmcgddnkeaaGreatDoor
end
