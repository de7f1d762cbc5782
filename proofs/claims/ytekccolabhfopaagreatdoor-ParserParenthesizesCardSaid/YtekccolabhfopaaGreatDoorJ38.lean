/- Joined: Ord. -/
import Derived.Test.YtekccolabhfopaaGreatDoorJ04
set_option linter.unusedVariables false
set_option linter.unusedSimpArgs false
section
/- Plain facts: in a parsed tree the offsets ascend from a node to its kids and lie in the text, and so does the place of an error; no program in sight. -/
namespace Go.Proofs.YtekccolabhfopaaGreatDoor
/-- The tokens stand in ascending order in a text of n bytes. -/
structure Asc (n : Int) (T : List Tok) : Prop where
  mono : ∀ i j, i ≤ j → j < T.length → (tk T i).pos ≤ (tk T j).pos
  low : ∀ i, i < T.length → 0 ≤ (tk T i).pos
  high : ∀ i, i < T.length → (tk T i).pos ≤ n
  inn : ∀ i, i < T.length → (tk T i).kind ≠ 3 → (tk T i).pos < n
/-- The offsets of a tree. -/
inductive Ord (n : Int) : Syn → Prop
  | mk {kd : Int} {tx : List UInt8} {m a : Int} {k : List Syn} (h : a < n) (hp : ∀ z ∈ k, a ≤ z.pos) (hk : ∀ z ∈ k, Ord n z) : Ord n (.mk kd tx m a k)
/-- What a reader from index i on comes to. -/
def GoodO {α : Type} (n : Int) (T : List Tok) (P : α → Nat → Prop) (i : Nat) (o : Out α) : Prop :=
  match o with | .none => True | .err p e => 0 ≤ p ∧ p ≤ n ∧ (e = 4 ∨ e = 12) | .ok a j => i ≤ j ∧ j < T.length ∧ P a j
section
variable {n : Int} {T : List Tok} {res : List UInt8 → Bool} {lv i : Nat} {b : Int}
theorem GoodO.bind {α β : Type} {P : α → Nat → Prop} {Q : β → Nat → Prop} {o : Out α} {f : α → Nat → Out β} {k : Nat} (h : GoodO n T P i o) (hk : k ≤ i) (hf : ∀ a j, i ≤ j → j < T.length → P a j → GoodO n T Q k (f a j)) : GoodO n T Q k (o.bind f) := by
  cases o with
  | none => trivial
  | err p e => exact h
  | ok a j => exact hf a j h.1 h.2.1 h.2.2
theorem GoodO.back {α : Type} {P Q : α → Nat → Prop} {o : Out α} {k : Nat} (h : GoodO n T P i o) (hk : k ≤ i) (hf : ∀ a j, i ≤ j → j < T.length → P a j → Q a j) : GoodO n T Q k o := by
  cases o with
  | none => trivial
  | err p e => exact h
  | ok a j => exact ⟨Nat.le_trans hk h.1, h.2.1, hf a j h.1 h.2.1 h.2.2⟩
theorem good_ok {α : Type} {P : α → Nat → Prop} {a : α} {j : Nat} (h1 : i ≤ j) (h2 : j < T.length) (h : P a j) : GoodO n T P i (.ok a j) := ⟨h1, h2, h⟩
theorem nx_le0 : i ≤ nx T i := by unfold nx; split <;> omega
theorem nx_lt0 (h : i < T.length) : nx T i < T.length := by unfold nx; split <;> omega
theorem fail_g {α : Type} {P : α → Nat → Prop} {e j k : Nat} (hA : Asc n T) (hj : j < T.length) (he : e = 4 ∨ e = 12 := by decide) : GoodO n T P k (fail T e j : Out α) := ⟨hA.low j hj, hA.high j hj, he⟩
theorem isW_k {ws : List (List UInt8)} (h : isW T ws i = true) : (tk T i).kind ≠ 3 := by
  unfold isW at h
  simp only [Bool.and_eq_true, Bool.or_eq_true, decide_eq_true_eq] at h
  omega
/-- A tree that begins at b or behind, and ends ahead of the next token. -/
def SynG (n : Int) (T : List Tok) (b : Int) (x : Syn) (j : Nat) : Prop := b ≤ x.pos ∧ x.pos ≤ (tk T j).pos ∧ Ord n x
def SynsG (n : Int) (b : Int) (xs : List Syn) (_ : Nat) : Prop := ∀ z ∈ xs, b ≤ z.pos ∧ Ord n z
theorem need_g {w : List UInt8} (hA : Asc n T) (hi : i < T.length) : GoodO n T (fun t j => t = tk T i ∧ t.pos < n ∧ j = nx T i) i (need T w i) := by
  unfold need
  split
  · rename_i h
    exact ⟨nx_le0, nx_lt0 hi, rfl, hA.inn i hi (isW_k h), rfl⟩
  · exact fail_g hA hi
theorem leaf_g {kd m a : Int} {tx : List UInt8} {j : Nat} (hb : b ≤ a) (hj : a ≤ (tk T j).pos) (hn : a < n) : SynG n T b (.mk kd tx m a []) j :=
  ⟨hb, hj, .mk hn (fun z h => (List.not_mem_nil h).elim) (fun z h => (List.not_mem_nil h).elim)⟩
theorem node_g {kd m a : Int} {tx : List UInt8} {k : List Syn} {j l : Nat} (hb : b ≤ a) (hj : a ≤ (tk T j).pos) (hn : a < n) (hk : SynsG n a k l) : SynG n T b (.mk kd tx m a k) j :=
  ⟨hb, hj, .mk hn (fun z h => (hk z h).1) (fun z h => (hk z h).2)⟩
theorem syns1 {x : Syn} {j l : Nat} (h : SynG n T b x j) : SynsG n b [x] l := fun z hz => by rw [List.mem_singleton.1 hz]; exact ⟨h.1, h.2.2⟩
theorem SynsG.add {x : Syn} {xs : List Syn} {j k l : Nat} (hx : SynsG n b xs j) (h : SynG n T b x k) : SynsG n b (xs ++ [x]) l := fun z hz => by
  rcases List.mem_append.1 hz with hz | hz
  · exact hx z hz
  · rw [List.mem_singleton.1 hz]; exact ⟨h.1, h.2.2⟩
theorem SynsG.cons {x : Syn} {xs : List Syn} {j k l : Nat} (h : SynG n T b x k) (hx : SynsG n b xs j) : SynsG n b (x :: xs) l := fun z hz => by
  rcases List.mem_cons.1 hz with rfl | hz
  · exact ⟨h.1, h.2.2⟩
  · exact hx z hz
theorem SynG.on {x : Syn} {j k : Nat} (hA : Asc n T) (h : SynG n T b x j) (hk : j ≤ k) (hl : k < T.length) : SynG n T b x k := ⟨h.1, Int.le_trans h.2.1 (hA.mono j k hk hl), h.2.2⟩
theorem SynG.low {x : Syn} {j : Nat} {c : Int} (h : SynG n T b x j) (hc : c ≤ b) : SynG n T c x j := ⟨Int.le_trans hc h.1, h.2⟩
theorem name_g (hA : Asc n T) (hi : i < T.length) (hb : b ≤ (tk T i).pos) : GoodO n T (SynG n T b) i (name res T i) := by
  unfold name
  split
  · exact fail_g hA hi
  · rename_i h
    exact ⟨nx_le0, nx_lt0 hi, leaf_g hb (hA.mono _ _ nx_le0 (nx_lt0 hi)) (hA.inn i hi (by omega))⟩
theorem number_g (hA : Asc n T) (hi : i < T.length) (hb : b ≤ (tk T i).pos) : GoodO n T (SynG n T b) i (number T i) := by
  unfold number
  split
  · exact fail_g hA hi
  · rename_i h
    exact ⟨nx_le0, nx_lt0 hi, leaf_g hb (hA.mono _ _ nx_le0 (nx_lt0 hi)) (hA.inn i hi (by omega))⟩
/-- A good reader. -/
def GR (n : Int) (T : List Tok) (r : Rd) : Prop := ∀ lv i b, i < T.length → b ≤ (tk T i).pos → GoodO n T (SynG n T b) i (r lv i)
theorem within_g {r : Rd} (hA : Asc n T) (h : GR n T r) (hi : i < T.length) (hb : b ≤ (tk T i).pos) : GoodO n T (SynG n T b) i (within T r lv i) := by
  unfold within
  split
  · exact fail_g hA hi
  · exact h _ _ _ hi hb
theorem upto {j : Nat} (hA : Asc n T) (hb : b ≤ (tk T i).pos) (hj : i ≤ j) (hl : j < T.length) : b ≤ (tk T j).pos := Int.le_trans hb (hA.mono i j hj hl)
theorem parens_g {r : Rd} (hA : Asc n T) (h : GR n T r) (hi : i < T.length) (hb : b ≤ (tk T i).pos) : GoodO n T (SynG n T b) i (parens T r lv i) :=
  (need_g hA hi).bind (Nat.le_refl _) fun _ j hj hl _ => (within_g hA h hl (upto hA hb hj hl)).bind hj fun x k hk hl2 hx => (need_g hA hl2).bind (Nat.le_trans hj hk) fun _ m hm hl3 _ => ⟨by omega, hl3, hx.on hA hm hl3⟩
theorem argsMore_g {rs : List Rd} (hA : Asc n T) (hr : ∀ r ∈ rs, GR n T r) : ∀ i, i < T.length → b ≤ (tk T i).pos → GoodO n T (SynsG n b) i (argsGo.argsMore T rs lv i) := by
  induction rs with
  | nil => intro i hi hb; exact ⟨Nat.le_refl _, hi, fun z h => (List.not_mem_nil h).elim⟩
  | cons r rs ih =>
    intro i hi hb
    exact (need_g hA hi).bind (Nat.le_refl _) fun _ j hj hl _ => (hr r (List.mem_cons_self ..) _ _ _ hl (upto hA hb hj hl)).bind hj fun x k hk hl2 hx => (ih (fun r h => hr r (List.mem_cons_of_mem _ h)) _ hl2 (upto hA hb (Nat.le_trans hj hk) hl2)).bind (Nat.le_trans hj hk) fun xs m hm hl3 hxs => ⟨by omega, hl3, SynsG.cons hx hxs⟩
theorem argsGo_g {rs : List Rd} (hA : Asc n T) (hr : ∀ r ∈ rs, GR n T r) (hi : i < T.length) (hb : b ≤ (tk T i).pos) : GoodO n T (SynsG n b) i (argsGo T rs lv i) := by
  cases rs with
  | nil => exact ⟨Nat.le_refl _, hi, fun z h => (List.not_mem_nil h).elim⟩
  | cons r rs =>
    exact (hr r (List.mem_cons_self ..) _ _ _ hi hb).bind (Nat.le_refl _) fun x k hk hl2 hx => (argsMore_g hA (fun r h => hr r (List.mem_cons_of_mem _ h)) _ hl2 (upto hA hb hk hl2)).bind hk fun xs m hm hl3 hxs => ⟨by omega, hl3, SynsG.cons hx hxs⟩
theorem arguments_g {rs : List Rd} {w : Tok} (hA : Asc n T) (hr : ∀ r ∈ rs, GR n T r) (hi : i < T.length) (hb : b ≤ w.pos) (hw : w.pos ≤ (tk T i).pos) (hn : w.pos < n) : GoodO n T (SynG n T b) i (arguments T w rs lv i) :=
  (need_g hA hi).bind (Nat.le_refl _) fun _ j hj hl _ => by
    split
    · exact fail_g hA hl
    · exact (argsGo_g hA hr hl (upto hA hw hj hl)).bind hj fun xs k hk hl2 hxs => (need_g hA hl2).bind (Nat.le_trans hj hk) fun _ m hm hl3 _ => ⟨by omega, hl3, node_g hb (upto hA hw (by omega) hl3) hn (l := k) hxs⟩
theorem binary_g {op : List UInt8} {num : Int} {x y : Syn} {j k l : Nat} (hx : SynG n T b x j) (hy : SynG n T x.pos y k) (hl : x.pos ≤ (tk T l).pos) : SynG n T b (binary op num x y) l := by
  have ho : x.pos < n := by
    have := hx.2.2
    cases this with
    | mk h _ _ => exact h
  exact node_g (l := 0) hx.1 hl ho fun z hz => by
    rcases List.mem_cons.1 hz with rfl | hz
    · exact ⟨Int.le_refl _, hx.2.2⟩
    · rw [List.mem_singleton.1 hz]; exact ⟨hy.1, hy.2.2⟩
theorem leftLoop_g {r : Rd} {ops : List (List UInt8)} (hA : Asc n T) (h : GR n T r) (g : Nat) : ∀ x i, i < T.length → SynG n T b x i → GoodO n T (SynG n T b) i (leftLoop T r ops lv g x i) := by
  induction g with
  | zero => intro x i _ _; trivial
  | succ g ih =>
    intro x i hi hx
    unfold leftLoop
    split
    · have h1 := nx_lt0 (T := T) hi
      have h2 := nx_le0 (T := T) (i := i)
      exact (h _ _ x.pos h1 (upto hA hx.2.1 h2 h1)).bind h2 fun y j hj hl hy => (ih _ _ hl (binary_g hx hy (upto hA hx.2.1 (by omega) hl))).back (by omega) fun _ _ _ _ h => h
    · exact ⟨Nat.le_refl _, hi, hx⟩
theorem left_g {r : Rd} {ops : List (List UInt8)} (hA : Asc n T) (h : GR n T r) : GR n T (left T r ops) := fun lv i b hi hb => (h _ _ _ hi hb).bind (Nat.le_refl _) fun x j hj hl hx => (leftLoop_g hA h _ _ _ hl hx).back hj fun _ _ _ _ h => h
theorem setLoop_g (hA : Asc n T) (g : Nat) : ∀ xs i, i < T.length → b ≤ (tk T i).pos → SynsG n b xs i → GoodO n T (SynsG n b) i (setLoop T g xs i) := by
  induction g with
  | zero => intro x i _ _ _; trivial
  | succ g ih =>
    intro xs i hi hb hx
    unfold setLoop
    split
    · have h1 := nx_lt0 (T := T) hi
      have h2 := nx_le0 (T := T) (i := i)
      exact (number_g hA h1 (upto hA hb h2 h1)).bind h2 fun y j hj hl hy => (ih _ _ hl (upto hA hb (by omega) hl) (hx.add hy)).back (by omega) fun _ _ _ _ h => h
    · exact ⟨Nat.le_refl _, hi, hx⟩
theorem set_g (hA : Asc n T) (hi : i < T.length) (hb : b ≤ (tk T i).pos) : GoodO n T (SynG n T b) i (setR T i) := by
  have h1 := nx_lt0 (T := T) hi
  have h2 := nx_le0 (T := T) (i := i)
  unfold setR
  split
  · rename_i h
    exact ⟨h2, h1, leaf_g hb (hA.mono _ _ h2 h1) (hA.inn i hi (isW_k h))⟩
  · refine (need_g hA hi).bind (Nat.le_refl _) fun t j hj hl ht => ?_
    have hn : (tk T i).pos < n := by rw [← ht.1]; exact ht.2.1
    split
    · have h3 := nx_lt0 (T := T) hl
      have h4 := nx_le0 (T := T) (i := j)
      exact ⟨by omega, h3, leaf_g hb (hA.mono _ _ (by omega) h3) hn⟩
    · exact (number_g hA hl (hA.mono i j hj hl)).bind hj fun x k hk hl2 hx => (setLoop_g hA _ [x] _ hl2 (hA.mono i k (by omega) hl2) (syns1 (l := k) hx)).bind (by omega) fun xs m hm hl3 hxs => (need_g hA hl3).bind (by omega) fun _ p hp hl4 _ => ⟨by omega, hl4, node_g hb (hA.mono _ _ (by omega) hl4) hn (l := 0) hxs⟩
theorem notR_g {r : Rd} (hA : Asc n T) (h : GR n T r) (hi : i < T.length) (hb : b ≤ (tk T i).pos) (hk : (tk T i).kind ≠ 3) : GoodO n T (SynG n T b) i (notR T r lv i) := by
  have h1 := nx_lt0 (T := T) hi
  have h2 := nx_le0 (T := T) (i := i)
  exact (within_g hA h h1 (hA.mono i _ h2 h1)).bind h2 fun x j hj hl hx => ⟨by omega, hl, node_g hb (hA.mono _ _ (by omega) hl) (hA.inn i hi hk) (l := 0) (syns1 hx)⟩
theorem rd_g (hA : Asc n T) (f : Nat) : ∀ nt, GR n T (rd res T f nt) := by
  induction f with
  | zero => intro nt lv i b _ _; trivial
  | succ f ih =>
    have one : ∀ r : Rd, GR n T r → ∀ q ∈ [r], GR n T q := fun r h q hq => by rw [List.mem_singleton.1 hq]; exact h
    have two : ∀ r p : Rd, GR n T r → GR n T p → ∀ q ∈ [r, p], GR n T q := fun r p h h' q hq => by
      rcases List.mem_cons.1 hq with rfl | hq
      · exact h
      · rw [List.mem_singleton.1 hq]; exact h'
    have num : GR n T (fun _ => number T) := fun _ _ _ hi hb => number_g hA hi hb
    have set : GR n T (fun _ => setR T) := fun _ _ _ hi hb => set_g hA hi hb
    have bin : ∀ {lv i j : Nat} {b : Int} {x : Syn} {r : Rd} {op : List UInt8} {num : Int}, GR n T r → i ≤ j → j < T.length → SynG n T b x j → i ≤ i → GoodO n T (SynG n T b) i ((r lv (nx T j)).bind fun y l => .ok (binary op num x y) l) := fun {lv i j b x r op num} h hj hl hx _ => by
      have h3 := nx_lt0 (T := T) hl
      have h4 := nx_le0 (T := T) (i := j)
      exact (h _ _ x.pos h3 (upto hA hx.2.1 h4 h3)).bind (by omega) fun y k hk hl2 hy => ⟨by omega, hl2, binary_g hx hy (upto hA hx.2.1 (by omega) hl2)⟩
    intro nt
    cases nt with
    | cond => exact left_g hA (ih _)
    | conj => exact left_g hA (ih _)
    | sum => exact left_g hA (ih _)
    | scheme => exact left_g hA (ih _)
    | term => exact left_g hA (ih _)
    | disj => exact left_g hA (ih _)
    | meet => exact left_g hA (ih _)
    | neg =>
      intro lv i b hi hb
      have h1 := nx_lt0 (T := T) hi
      have h2 := nx_le0 (T := T) (i := i)
      rw [rd]
      dsimp only
      split
      · rename_i h
        exact notR_g hA (ih _) hi hb (isW_k h)
      split
      · rename_i h
        exact (name_g hA h1 (hA.mono i _ h2 h1)).bind h2 fun v j hj hl hv => (need_g hA hl).bind (by omega) fun _ k hk hl2 _ => (within_g hA (ih _) hl2 (hA.mono i k (by omega) hl2)).bind (by omega) fun x m hm hl3 hx => ⟨by omega, hl3, node_g hb (hA.mono _ _ (by omega) hl3) (hA.inn i hi (isW_k h)) (l := 0) (SynsG.cons hv (syns1 (l := 0) hx))⟩
      · refine (ih .sum _ _ _ hi hb).bind (Nat.le_refl _) fun x j hj hl hx => ?_
        split
        · exact bin (ih .sum) hj hl hx (Nat.le_refl _)
        · exact ⟨hj, hl, hx⟩
    | unit =>
      intro lv i b hi hb
      have h1 := nx_lt0 (T := T) hi
      have h2 := nx_le0 (T := T) (i := i)
      have hm := hA.mono i _ h2 h1
      have args : ∀ {rs : List Rd}, (∀ r ∈ rs, GR n T r) → (tk T i).kind ≠ 3 → GoodO n T (SynG n T b) i (arguments T (tk T i) rs lv (nx T i)) := fun h hk => (arguments_g hA h h1 hb hm (hA.inn i hi hk)).back h2 fun _ _ _ _ h => h
      rw [rd]
      dsimp only
      split
      · exact number_g hA hi hb
      split
      · exact args (one _ (ih _)) (isW_k (by assumption))
      split
      · exact args (two _ _ (ih _) (ih _)) (isW_k (by assumption))
      split
      · rename_i h
        exact (name_g hA h1 hm).bind h2 fun v j hj hl hv => (parens_g hA (ih _) hl (hA.mono i j (by omega) hl)).bind (by omega) fun x m hm hl3 hx => ⟨by omega, hl3, node_g hb (hA.mono _ _ (by omega) hl3) (hA.inn i hi (isW_k h)) (l := 0) (SynsG.cons hv (syns1 (l := 0) hx))⟩
      split
      · exact parens_g hA (ih _) hi hb
      · exact name_g hA hi hb
    | factor =>
      intro lv i b hi hb
      rw [rd]
      dsimp only
      refine (ih .atom _ _ _ hi hb).bind (Nat.le_refl _) fun x j hj hl hx => ?_
      have h3 := nx_lt0 (T := T) hl
      have h4 := nx_le0 (T := T) (i := j)
      split
      · exact (number_g hA h3 (hA.mono _ _ h4 h3)).bind (by omega) fun _ k hk hl2 _ => (within_g hA (ih _) hl2 (upto hA hx.2.1 (by omega) hl2)).bind (by omega) fun y m hm hl3 hy => ⟨by omega, hl3, binary_g hx hy (upto hA hx.2.1 (by omega) hl3)⟩
      · exact ⟨hj, hl, hx⟩
    | atom =>
      intro lv i b hi hb
      have h1 := nx_lt0 (T := T) hi
      have h2 := nx_le0 (T := T) (i := i)
      have hm := hA.mono i _ h2 h1
      have args : ∀ {rs : List Rd}, (∀ r ∈ rs, GR n T r) → (tk T i).kind ≠ 3 → GoodO n T (SynG n T b) i (arguments T (tk T i) rs lv (nx T i)) := fun h hk => (arguments_g hA h h1 hb hm (hA.inn i hi hk)).back h2 fun _ _ _ _ h => h
      rw [rd]
      dsimp only
      split
      · exact args (one _ num) (isW_k (by assumption))
      split
      · exact ⟨h2, h1, leaf_g hb hm (hA.inn i hi (isW_k (by assumption)))⟩
      split
      · exact args (one _ (ih _)) (isW_k (by assumption))
      split
      · exact parens_g hA (ih _) hi hb
      · exact name_g hA hi hb
    | formula =>
      intro lv i b hi hb
      rw [rd]
      dsimp only
      refine (ih .disj _ _ _ hi hb).bind (Nat.le_refl _) fun x j hj hl hx => ?_
      have h3 := nx_lt0 (T := T) hl
      have h4 := nx_le0 (T := T) (i := j)
      split
      · exact (within_g hA (ih _) h3 (upto hA hx.2.1 h4 h3)).bind (by omega) fun y m hm hl3 hy => ⟨by omega, hl3, binary_g hx hy (upto hA hx.2.1 (by omega) hl3)⟩
      · exact ⟨hj, hl, hx⟩
    | lit =>
      intro lv i b hi hb
      have h1 := nx_lt0 (T := T) hi
      have h2 := nx_le0 (T := T) (i := i)
      have hm := hA.mono i _ h2 h1
      have args : ∀ {rs : List Rd}, (∀ r ∈ rs, GR n T r) → (tk T i).kind ≠ 3 → GoodO n T (SynG n T b) i (arguments T (tk T i) rs lv (nx T i)) := fun h hk => (arguments_g hA h h1 hb hm (hA.inn i hi hk)).back h2 fun _ _ _ _ h => h
      rw [rd]
      dsimp only
      split
      · exact notR_g hA (ih _) hi hb (isW_k (by assumption))
      split
      · exact ⟨h2, h1, leaf_g hb hm (hA.inn i hi (isW_k (by assumption)))⟩
      split
      · exact parens_g hA (ih _) hi hb
      split
      · exact args (two _ _ num num) (isW_k (by assumption))
      split
      · exact args (one _ num) (isW_k (by assumption))
      split
      · exact args (two _ _ num (ih _)) (isW_k (by assumption))
      split
      · exact args (two _ _ set (ih _)) (isW_k (by assumption))
      split
      · exact args (one _ (ih _)) (isW_k (by assumption))
      · exact fail_g hA hi
theorem part_g {f : Nat} {k : Int} (hA : Asc n T) (hi : i < T.length) (hb : b ≤ (tk T i).pos) (hk : (tk T i).kind ≠ 3) : GoodO n T (SynG n T b) i (part res T f k lv i) := by
  have h1 := nx_lt0 (T := T) hi
  have h2 := nx_le0 (T := T) (i := i)
  exact (rd_g hA f _ _ _ _ h1 (hA.mono i _ h2 h1)).bind h2 fun x j hj hl hx => ⟨by omega, hl, node_g hb (hA.mono _ _ (by omega) hl) (hA.inn i hi hk) (l := 0) (syns1 hx)⟩
theorem opt_g {f : Nat} {w : List UInt8} {k : Int} {xs : List Syn} (hA : Asc n T) (hi : i < T.length) (hb : b ≤ (tk T i).pos) (hx : SynsG n b xs 0) : GoodO n T (SynsG n b) i (optPart res T f w k xs lv i) := by
  unfold optPart
  split
  · exact (part_g hA hi hb (isW_k (by assumption))).bind (Nat.le_refl _) fun y j hj hl hy => ⟨hj, hl, hx.add hy⟩
  · exact ⟨Nat.le_refl _, hi, hx⟩
theorem decl_g {f : Nat} (hA : Asc n T) (hi : i < T.length) (hb : b ≤ (tk T i).pos) : GoodO n T (SynG n T b) i (declaration res T f lv i) := by
  have h1 := nx_lt0 (T := T) hi
  have h2 := nx_le0 (T := T) (i := i)
  have hm : ∀ {j}, i ≤ j → j < T.length → (tk T i).pos ≤ (tk T j).pos := fun hj hl => hA.mono i _ hj hl
  unfold declaration
  refine GoodO.bind (P := SynG n T b) (i := i) ?_ (Nat.le_refl _) fun x j hj hl hx => (need_g hA hl).bind hj fun _ k hk hl2 _ => ⟨by omega, hl2, hx.on hA hk hl2⟩
  split
  · have hn := hA.inn i hi (isW_k (by assumption))
    refine (name_g hA h1 (hm h2 h1)).bind h2 fun _ j1 g1 l1 _ => (need_g hA l1).bind (by omega) fun _ j2 g2 l2 _ => (number_g hA l2 (hm (by omega) l2)).bind (by omega) fun _ j3 g3 l3 _ => (need_g hA l3).bind (by omega) fun _ j4 g4 l4 _ => (number_g hA l4 (hm (by omega) l4)).bind (by omega) fun y j5 g5 l5 hy => (opt_g hA l5 (hm (by omega) l5) (syns1 hy)).bind (by omega) fun xs j6 g6 l6 hxs => ?_
    split
    · exact (part_g hA l6 (hm (by omega) l6) (isW_k (by assumption))).bind (by omega) fun z j7 g7 l7 hz => (opt_g hA l7 (hm (by omega) l7) (hxs.add hz)).bind (by omega) fun ys j8 g8 l8 hys => ⟨by omega, l8, node_g hb (hm (by omega) l8) hn (l := 0) hys⟩
    · exact fail_g hA l6
  split
  · have hn := hA.inn i hi (isW_k (by assumption))
    exact (name_g hA h1 (hm h2 h1)).bind h2 fun _ j1 g1 l1 _ => (need_g hA l1).bind (by omega) fun _ j2 g2 l2 _ => (rd_g hA f _ _ _ _ l2 (hm (by omega) l2)).bind (by omega) fun y j3 g3 l3 hy => ⟨by omega, l3, node_g hb (hm (by omega) l3) hn (l := 0) (syns1 hy)⟩
  split
  · have hn := hA.inn i hi (isW_k (by assumption))
    exact (name_g hA h1 (hm h2 h1)).bind h2 fun _ j1 g1 l1 _ => (need_g hA l1).bind (by omega) fun _ j2 g2 l2 _ => (rd_g hA f _ _ _ _ l2 (hm (by omega) l2)).bind (by omega) fun y j3 g3 l3 hy => ⟨by omega, l3, node_g hb (hm (by omega) l3) hn (l := 0) (syns1 hy)⟩
  split
  · have hn := hA.inn i hi (isW_k (by assumption))
    exact (name_g hA h1 (hm h2 h1)).bind h2 fun _ j1 g1 l1 _ => (need_g hA l1).bind (by omega) fun _ j2 g2 l2 _ => (name_g hA l2 (hm (by omega) l2)).bind (by omega) fun u j3 g3 l3 hu => (need_g hA l3).bind (by omega) fun _ j4 g4 l4 _ => (name_g hA l4 (hm (by omega) l4)).bind (by omega) fun v j5 g5 l5 hv => (need_g hA l5).bind (by omega) fun _ j6 g6 l6 _ => (number_g hA l6 (hm (by omega) l6)).bind (by omega) fun _ j7 g7 l7 _ => ⟨by omega, l7, node_g hb (hm (by omega) l7) hn (l := 0) (SynsG.cons hu (syns1 (l := 0) hv))⟩
  · exact fail_g hA hi
theorem declLoop_g {f : Nat} (hA : Asc n T) (g : Nat) : ∀ xs i, i < T.length → b ≤ (tk T i).pos → SynsG n b xs 0 → GoodO n T (SynsG n b) i (declLoop res T f lv g xs i) := by
  induction g with
  | zero => intro x i _ _ _; trivial
  | succ g ih =>
    intro xs i hi hb hx
    unfold declLoop
    split
    · exact ⟨Nat.le_refl _, hi, hx⟩
    · exact (decl_g hA hi hb).bind (Nat.le_refl _) fun y j hj hl hy => (ih _ _ hl (upto hA hb hj hl) (hx.add hy)).back hj fun _ _ _ _ h => h
theorem program_g {f : Nat} (hA : Asc n T) : GR n T (program res T f) := fun lv i b hi hb =>
  (need_g hA hi).bind (Nat.le_refl _) fun t j1 g1 l1 ht => (number_g hA l1 (hA.mono i _ g1 l1)).bind g1 fun _ j2 g2 l2 _ => (need_g hA l2).bind (by omega) fun _ j3 g3 l3 _ => (declLoop_g hA _ [] _ l3 (hA.mono i _ (by omega) l3) (fun z h => (List.not_mem_nil h).elim)).bind (by omega) fun xs j4 g4 l4 hxs => by
    obtain ⟨rfl, hn, _⟩ := ht
    exact ⟨by omega, l4, node_g hb (hA.mono _ _ (by omega) l4) hn (l := 0) hxs⟩
theorem whole_g {r : Rd} (hA : Asc n T) (h : GR n T r) (hT : 0 < T.length) : GoodO n T (fun x _ => 0 ≤ x.pos ∧ Ord n x) 0 (whole T r) := by
  unfold whole
  refine (h 0 0 0 hT (hA.low 0 hT)).bind (Nat.le_refl _) fun x j hj hl hx => ?_
  split
  · exact ⟨hj, hl, hx.1, hx.2.2⟩
  · exact fail_g hA hl
end
end Go.Proofs.YtekccolabhfopaaGreatDoor
end
