/- Joined: Ord, PlainQ, Tl, Up, Wp. -/
import Derived.Test.YtplbfmcgddnkeaaGreatDoorK01
import Derived.Test.YtplbfmcgddnkeaaGreatDoorK17
import Derived.Test.YtplbfmcgddnkeaaGreatDoorK03
import Derived.Test.YtplbfmcgddnkeaaGreatDoorK05
set_option linter.unusedVariables false
set_option linter.unusedSimpArgs false
section
namespace Go.Proofs.YtplbfmcgddnkeaaGreatDoor
structure Asc (n : Int) (T : List Tok) : Prop where
  mono : ∀ i j, i ≤ j → j < T.length → (tk T i).pos ≤ (tk T j).pos
  low : ∀ i, i < T.length → 0 ≤ (tk T i).pos
  high : ∀ i, i < T.length → (tk T i).pos ≤ n
  inn : ∀ i, i < T.length → (tk T i).kind ≠ 3 → (tk T i).pos < n
inductive Ord (n : Int) : Syn → Prop
  | mk {kd : Int} {tx : List UInt8} {m a : Int} {k : List Syn} (h : a < n) (hp : ∀ z ∈ k, a ≤ z.pos) (hk : ∀ z ∈ k, Ord n z) : Ord n (.mk kd tx m a k)
def GoodO {α : Type} (n : Int) (T : List Tok) (P : α → Nat → Prop) (i : Nat) (o : Out α) : Prop :=
  match o with | .none => True | .err p e => 0 ≤ p ∧ p ≤ n ∧ (e = 4 ∨ e = 12) | .ok a j => i ≤ j ∧ j < T.length ∧ P a j
section
variable {n : Int} {T : List Tok} {res : List UInt8 → Bool} {lv i : Nat} {b : Int}
theorem GoodO.bind {α β : Type} {P : α → Nat → Prop} {Q : β → Nat → Prop} {o : Out α} {f : α → Nat → Out β} {k : Nat} (h : GoodO n T P i o) (hk : k ≤ i) (hf : ∀ a j, i ≤ j → j < T.length → P a j → GoodO n T Q k (f a j)) : GoodO n T Q k (o.bind f) := by
  cases o with
  | none => trivial
  | err p e => exact h
  | ok a j => exact hf a j h.1 h.2.1 h.2.2
theorem GoodO.back {α : Type} {P Q : α → Nat → Prop} {o : Out α} {k : Nat} (h : GoodO n T P i o) (hk : k ≤ i) (hf : ∀ a j, i ≤ j → j < T.length → P a j → Q a j) : GoodO n T Q k o := by
  cases o with
  | none => trivial
  | err p e => exact h
  | ok a j => exact ⟨Nat.le_trans hk h.1, h.2.1, hf a j h.1 h.2.1 h.2.2⟩
theorem nx_le0 : i ≤ nx T i := by unfold nx; split <;> omega
theorem nx_lt0 (h : i < T.length) : nx T i < T.length := by unfold nx; split <;> omega
theorem fail_g {α : Type} {P : α → Nat → Prop} {e j k : Nat} (hA : Asc n T) (hj : j < T.length) (he : e = 4 ∨ e = 12 := by decide) : GoodO n T P k (fail T e j : Out α) := ⟨hA.low j hj, hA.high j hj, he⟩
theorem isW_k {ws : List (List UInt8)} (h : isW T ws i = true) : (tk T i).kind ≠ 3 := by
  unfold isW at h
  simp only [Bool.and_eq_true, Bool.or_eq_true, decide_eq_true_eq] at h
  omega
def SynG (n : Int) (T : List Tok) (b : Int) (x : Syn) (j : Nat) : Prop := b ≤ x.pos ∧ x.pos ≤ (tk T j).pos ∧ Ord n x
def SynsG (n : Int) (b : Int) (xs : List Syn) (_ : Nat) : Prop := ∀ z ∈ xs, b ≤ z.pos ∧ Ord n z
theorem need_g {w : List UInt8} (hA : Asc n T) (hi : i < T.length) : GoodO n T (fun t j => t = tk T i ∧ t.pos < n ∧ j = nx T i) i (need T w i) := by
  unfold need
  split
  · rename_i h
    exact ⟨nx_le0, nx_lt0 hi, rfl, hA.inn i hi (isW_k h), rfl⟩
  · exact fail_g hA hi
theorem leaf_g {kd m a : Int} {tx : List UInt8} {j : Nat} (hb : b ≤ a) (hj : a ≤ (tk T j).pos) (hn : a < n) : SynG n T b (.mk kd tx m a []) j :=
  ⟨hb, hj, .mk hn (fun z h => (List.not_mem_nil h).elim) (fun z h => (List.not_mem_nil h).elim)⟩
theorem node_g {kd m a : Int} {tx : List UInt8} {k : List Syn} {j l : Nat} (hb : b ≤ a) (hj : a ≤ (tk T j).pos) (hn : a < n) (hk : SynsG n a k l) : SynG n T b (.mk kd tx m a k) j :=
  ⟨hb, hj, .mk hn (fun z h => (hk z h).1) (fun z h => (hk z h).2)⟩
theorem syns1 {x : Syn} {j l : Nat} (h : SynG n T b x j) : SynsG n b [x] l := fun z hz => by rw [List.mem_singleton.1 hz]; exact ⟨h.1, h.2.2⟩
theorem SynsG.add {x : Syn} {xs : List Syn} {j k l : Nat} (hx : SynsG n b xs j) (h : SynG n T b x k) : SynsG n b (xs ++ [x]) l := fun z hz => by
  rcases List.mem_append.1 hz with hz | hz
  · exact hx z hz
  · rw [List.mem_singleton.1 hz]; exact ⟨h.1, h.2.2⟩
theorem SynsG.cons {x : Syn} {xs : List Syn} {j k l : Nat} (h : SynG n T b x k) (hx : SynsG n b xs j) : SynsG n b (x :: xs) l := fun z hz => by
  rcases List.mem_cons.1 hz with rfl | hz
  · exact ⟨h.1, h.2.2⟩
  · exact hx z hz
theorem SynG.on {x : Syn} {j k : Nat} (hA : Asc n T) (h : SynG n T b x j) (hk : j ≤ k) (hl : k < T.length) : SynG n T b x k := ⟨h.1, Int.le_trans h.2.1 (hA.mono j k hk hl), h.2.2⟩
theorem SynG.low {x : Syn} {j : Nat} {c : Int} (h : SynG n T b x j) (hc : c ≤ b) : SynG n T c x j := ⟨Int.le_trans hc h.1, h.2⟩
theorem name_g (hA : Asc n T) (hi : i < T.length) (hb : b ≤ (tk T i).pos) : GoodO n T (SynG n T b) i (name res T i) := by
  unfold name
  split
  · exact fail_g hA hi
  · rename_i h
    exact ⟨nx_le0, nx_lt0 hi, leaf_g hb (hA.mono _ _ nx_le0 (nx_lt0 hi)) (hA.inn i hi (by omega))⟩
theorem number_g (hA : Asc n T) (hi : i < T.length) (hb : b ≤ (tk T i).pos) : GoodO n T (SynG n T b) i (number T i) := by
  unfold number
  split
  · exact fail_g hA hi
  · rename_i h
    exact ⟨nx_le0, nx_lt0 hi, leaf_g hb (hA.mono _ _ nx_le0 (nx_lt0 hi)) (hA.inn i hi (by omega))⟩
def GR (n : Int) (T : List Tok) (r : Rd) : Prop := ∀ lv i b, i < T.length → b ≤ (tk T i).pos → GoodO n T (SynG n T b) i (r lv i)
theorem within_g {r : Rd} (hA : Asc n T) (h : GR n T r) (hi : i < T.length) (hb : b ≤ (tk T i).pos) : GoodO n T (SynG n T b) i (within T r lv i) := by
  unfold within
  split
  · exact fail_g hA hi
  · exact h _ _ _ hi hb
theorem upto {j : Nat} (hA : Asc n T) (hb : b ≤ (tk T i).pos) (hj : i ≤ j) (hl : j < T.length) : b ≤ (tk T j).pos := Int.le_trans hb (hA.mono i j hj hl)
theorem parens_g {r : Rd} (hA : Asc n T) (h : GR n T r) (hi : i < T.length) (hb : b ≤ (tk T i).pos) : GoodO n T (SynG n T b) i (parens T r lv i) :=
  (need_g hA hi).bind (Nat.le_refl _) fun _ j hj hl _ => (within_g hA h hl (upto hA hb hj hl)).bind hj fun x k hk hl2 hx => (need_g hA hl2).bind (Nat.le_trans hj hk) fun _ m hm hl3 _ => ⟨by omega, hl3, hx.on hA hm hl3⟩
theorem argsMore_g {rs : List Rd} (hA : Asc n T) (hr : ∀ r ∈ rs, GR n T r) : ∀ i, i < T.length → b ≤ (tk T i).pos → GoodO n T (SynsG n b) i (argsGo.argsMore T rs lv i) := by
  induction rs with
  | nil => intro i hi hb; exact ⟨Nat.le_refl _, hi, fun z h => (List.not_mem_nil h).elim⟩
  | cons r rs ih =>
    intro i hi hb
    exact (need_g hA hi).bind (Nat.le_refl _) fun _ j hj hl _ => (hr r (List.mem_cons_self ..) _ _ _ hl (upto hA hb hj hl)).bind hj fun x k hk hl2 hx => (ih (fun r h => hr r (List.mem_cons_of_mem _ h)) _ hl2 (upto hA hb (Nat.le_trans hj hk) hl2)).bind (Nat.le_trans hj hk) fun xs m hm hl3 hxs => ⟨by omega, hl3, SynsG.cons hx hxs⟩
theorem argsGo_g {rs : List Rd} (hA : Asc n T) (hr : ∀ r ∈ rs, GR n T r) (hi : i < T.length) (hb : b ≤ (tk T i).pos) : GoodO n T (SynsG n b) i (argsGo T rs lv i) := by
  cases rs with
  | nil => exact ⟨Nat.le_refl _, hi, fun z h => (List.not_mem_nil h).elim⟩
  | cons r rs =>
    exact (hr r (List.mem_cons_self ..) _ _ _ hi hb).bind (Nat.le_refl _) fun x k hk hl2 hx => (argsMore_g hA (fun r h => hr r (List.mem_cons_of_mem _ h)) _ hl2 (upto hA hb hk hl2)).bind hk fun xs m hm hl3 hxs => ⟨by omega, hl3, SynsG.cons hx hxs⟩
theorem arguments_g {rs : List Rd} {w : Tok} (hA : Asc n T) (hr : ∀ r ∈ rs, GR n T r) (hi : i < T.length) (hb : b ≤ w.pos) (hw : w.pos ≤ (tk T i).pos) (hn : w.pos < n) : GoodO n T (SynG n T b) i (arguments T w rs lv i) :=
  (need_g hA hi).bind (Nat.le_refl _) fun _ j hj hl _ => by
    split
    · exact fail_g hA hl
    · exact (argsGo_g hA hr hl (upto hA hw hj hl)).bind hj fun xs k hk hl2 hxs => (need_g hA hl2).bind (Nat.le_trans hj hk) fun _ m hm hl3 _ => ⟨by omega, hl3, node_g hb (upto hA hw (by omega) hl3) hn (l := k) hxs⟩
theorem binary_g {op : List UInt8} {num : Int} {x y : Syn} {j k l : Nat} (hx : SynG n T b x j) (hy : SynG n T x.pos y k) (hl : x.pos ≤ (tk T l).pos) : SynG n T b (binary op num x y) l := by
  have ho : x.pos < n := by
    have := hx.2.2
    cases this with
    | mk h _ _ => exact h
  exact node_g (l := 0) hx.1 hl ho fun z hz => by
    rcases List.mem_cons.1 hz with rfl | hz
    · exact ⟨Int.le_refl _, hx.2.2⟩
    · rw [List.mem_singleton.1 hz]; exact ⟨hy.1, hy.2.2⟩
theorem leftLoop_g {r : Rd} {ops : List (List UInt8)} (hA : Asc n T) (h : GR n T r) (g : Nat) : ∀ x i, i < T.length → SynG n T b x i → GoodO n T (SynG n T b) i (leftLoop T r ops lv g x i) := by
  induction g with
  | zero => intro x i _ _; trivial
  | succ g ih =>
    intro x i hi hx
    unfold leftLoop
    split
    · have h1 := nx_lt0 (T := T) hi
      have h2 := nx_le0 (T := T) (i := i)
      exact (h _ _ x.pos h1 (upto hA hx.2.1 h2 h1)).bind h2 fun y j hj hl hy => (ih _ _ hl (binary_g hx hy (upto hA hx.2.1 (by omega) hl))).back (by omega) fun _ _ _ _ h => h
    · exact ⟨Nat.le_refl _, hi, hx⟩
theorem left_g {r : Rd} {ops : List (List UInt8)} (hA : Asc n T) (h : GR n T r) : GR n T (left T r ops) := fun lv i b hi hb => (h _ _ _ hi hb).bind (Nat.le_refl _) fun x j hj hl hx => (leftLoop_g hA h _ _ _ hl hx).back hj fun _ _ _ _ h => h
theorem setLoop_g (hA : Asc n T) (g : Nat) : ∀ xs i, i < T.length → b ≤ (tk T i).pos → SynsG n b xs i → GoodO n T (SynsG n b) i (setLoop T g xs i) := by
  induction g with
  | zero => intro x i _ _ _; trivial
  | succ g ih =>
    intro xs i hi hb hx
    unfold setLoop
    split
    · have h1 := nx_lt0 (T := T) hi
      have h2 := nx_le0 (T := T) (i := i)
      exact (number_g hA h1 (upto hA hb h2 h1)).bind h2 fun y j hj hl hy => (ih _ _ hl (upto hA hb (by omega) hl) (hx.add hy)).back (by omega) fun _ _ _ _ h => h
    · exact ⟨Nat.le_refl _, hi, hx⟩
theorem set_g (hA : Asc n T) (hi : i < T.length) (hb : b ≤ (tk T i).pos) : GoodO n T (SynG n T b) i (setR T i) := by
  have h1 := nx_lt0 (T := T) hi
  have h2 := nx_le0 (T := T) (i := i)
  unfold setR
  split
  · rename_i h
    exact ⟨h2, h1, leaf_g hb (hA.mono _ _ h2 h1) (hA.inn i hi (isW_k h))⟩
  · refine (need_g hA hi).bind (Nat.le_refl _) fun t j hj hl ht => ?_
    have hn : (tk T i).pos < n := by rw [← ht.1]; exact ht.2.1
    split
    · have h3 := nx_lt0 (T := T) hl
      have h4 := nx_le0 (T := T) (i := j)
      exact ⟨by omega, h3, leaf_g hb (hA.mono _ _ (by omega) h3) hn⟩
    · exact (number_g hA hl (hA.mono i j hj hl)).bind hj fun x k hk hl2 hx => (setLoop_g hA _ [x] _ hl2 (hA.mono i k (by omega) hl2) (syns1 (l := k) hx)).bind (by omega) fun xs m hm hl3 hxs => (need_g hA hl3).bind (by omega) fun _ p hp hl4 _ => ⟨by omega, hl4, node_g hb (hA.mono _ _ (by omega) hl4) hn (l := 0) hxs⟩
theorem notR_g {r : Rd} (hA : Asc n T) (h : GR n T r) (hi : i < T.length) (hb : b ≤ (tk T i).pos) (hk : (tk T i).kind ≠ 3) : GoodO n T (SynG n T b) i (notR T r lv i) := by
  have h1 := nx_lt0 (T := T) hi
  have h2 := nx_le0 (T := T) (i := i)
  exact (within_g hA h h1 (hA.mono i _ h2 h1)).bind h2 fun x j hj hl hx => ⟨by omega, hl, node_g hb (hA.mono _ _ (by omega) hl) (hA.inn i hi hk) (l := 0) (syns1 hx)⟩
theorem rd_g (hA : Asc n T) (f : Nat) : ∀ nt, GR n T (rd res T f nt) := by
  induction f with
  | zero => intro nt lv i b _ _; trivial
  | succ f ih =>
    have one : ∀ r : Rd, GR n T r → ∀ q ∈ [r], GR n T q := fun r h q hq => by rw [List.mem_singleton.1 hq]; exact h
    have two : ∀ r p : Rd, GR n T r → GR n T p → ∀ q ∈ [r, p], GR n T q := fun r p h h' q hq => by
      rcases List.mem_cons.1 hq with rfl | hq
      · exact h
      · rw [List.mem_singleton.1 hq]; exact h'
    have num : GR n T (fun _ => number T) := fun _ _ _ hi hb => number_g hA hi hb
    have set : GR n T (fun _ => setR T) := fun _ _ _ hi hb => set_g hA hi hb
    have bin : ∀ {lv i j : Nat} {b : Int} {x : Syn} {r : Rd} {op : List UInt8} {num : Int}, GR n T r → i ≤ j → j < T.length → SynG n T b x j → i ≤ i → GoodO n T (SynG n T b) i ((r lv (nx T j)).bind fun y l => .ok (binary op num x y) l) := fun {lv i j b x r op num} h hj hl hx _ => by
      have h3 := nx_lt0 (T := T) hl
      have h4 := nx_le0 (T := T) (i := j)
      exact (h _ _ x.pos h3 (upto hA hx.2.1 h4 h3)).bind (by omega) fun y k hk hl2 hy => ⟨by omega, hl2, binary_g hx hy (upto hA hx.2.1 (by omega) hl2)⟩
    intro nt
    cases nt with
    | cond => exact left_g hA (ih _)
    | conj => exact left_g hA (ih _)
    | sum => exact left_g hA (ih _)
    | scheme => exact left_g hA (ih _)
    | term => exact left_g hA (ih _)
    | disj => exact left_g hA (ih _)
    | meet => exact left_g hA (ih _)
    | neg =>
      intro lv i b hi hb
      have h1 := nx_lt0 (T := T) hi
      have h2 := nx_le0 (T := T) (i := i)
      rw [rd]
      dsimp only
      split
      · rename_i h
        exact notR_g hA (ih _) hi hb (isW_k h)
      split
      · rename_i h
        exact (name_g hA h1 (hA.mono i _ h2 h1)).bind h2 fun v j hj hl hv => (need_g hA hl).bind (by omega) fun _ k hk hl2 _ => (within_g hA (ih _) hl2 (hA.mono i k (by omega) hl2)).bind (by omega) fun x m hm hl3 hx => ⟨by omega, hl3, node_g hb (hA.mono _ _ (by omega) hl3) (hA.inn i hi (isW_k h)) (l := 0) (SynsG.cons hv (syns1 (l := 0) hx))⟩
      · refine (ih .sum _ _ _ hi hb).bind (Nat.le_refl _) fun x j hj hl hx => ?_
        split
        · exact bin (ih .sum) hj hl hx (Nat.le_refl _)
        · exact ⟨hj, hl, hx⟩
    | unit =>
      intro lv i b hi hb
      have h1 := nx_lt0 (T := T) hi
      have h2 := nx_le0 (T := T) (i := i)
      have hm := hA.mono i _ h2 h1
      have args : ∀ {rs : List Rd}, (∀ r ∈ rs, GR n T r) → (tk T i).kind ≠ 3 → GoodO n T (SynG n T b) i (arguments T (tk T i) rs lv (nx T i)) := fun h hk => (arguments_g hA h h1 hb hm (hA.inn i hi hk)).back h2 fun _ _ _ _ h => h
      rw [rd]
      dsimp only
      split
      · exact number_g hA hi hb
      split
      · exact args (one _ (ih _)) (isW_k (by assumption))
      split
      · exact args (two _ _ (ih _) (ih _)) (isW_k (by assumption))
      split
      · rename_i h
        exact (name_g hA h1 hm).bind h2 fun v j hj hl hv => (parens_g hA (ih _) hl (hA.mono i j (by omega) hl)).bind (by omega) fun x m hm hl3 hx => ⟨by omega, hl3, node_g hb (hA.mono _ _ (by omega) hl3) (hA.inn i hi (isW_k h)) (l := 0) (SynsG.cons hv (syns1 (l := 0) hx))⟩
      split
      · exact parens_g hA (ih _) hi hb
      · exact name_g hA hi hb
    | factor =>
      intro lv i b hi hb
      rw [rd]
      dsimp only
      refine (ih .atom _ _ _ hi hb).bind (Nat.le_refl _) fun x j hj hl hx => ?_
      have h3 := nx_lt0 (T := T) hl
      have h4 := nx_le0 (T := T) (i := j)
      split
      · exact (number_g hA h3 (hA.mono _ _ h4 h3)).bind (by omega) fun _ k hk hl2 _ => (within_g hA (ih _) hl2 (upto hA hx.2.1 (by omega) hl2)).bind (by omega) fun y m hm hl3 hy => ⟨by omega, hl3, binary_g hx hy (upto hA hx.2.1 (by omega) hl3)⟩
      · exact ⟨hj, hl, hx⟩
    | atom =>
      intro lv i b hi hb
      have h1 := nx_lt0 (T := T) hi
      have h2 := nx_le0 (T := T) (i := i)
      have hm := hA.mono i _ h2 h1
      have args : ∀ {rs : List Rd}, (∀ r ∈ rs, GR n T r) → (tk T i).kind ≠ 3 → GoodO n T (SynG n T b) i (arguments T (tk T i) rs lv (nx T i)) := fun h hk => (arguments_g hA h h1 hb hm (hA.inn i hi hk)).back h2 fun _ _ _ _ h => h
      rw [rd]
      dsimp only
      split
      · exact args (one _ num) (isW_k (by assumption))
      split
      · exact ⟨h2, h1, leaf_g hb hm (hA.inn i hi (isW_k (by assumption)))⟩
      split
      · exact args (one _ (ih _)) (isW_k (by assumption))
      split
      · exact parens_g hA (ih _) hi hb
      · exact name_g hA hi hb
    | formula =>
      intro lv i b hi hb
      rw [rd]
      dsimp only
      refine (ih .disj _ _ _ hi hb).bind (Nat.le_refl _) fun x j hj hl hx => ?_
      have h3 := nx_lt0 (T := T) hl
      have h4 := nx_le0 (T := T) (i := j)
      split
      · exact (within_g hA (ih _) h3 (upto hA hx.2.1 h4 h3)).bind (by omega) fun y m hm hl3 hy => ⟨by omega, hl3, binary_g hx hy (upto hA hx.2.1 (by omega) hl3)⟩
      · exact ⟨hj, hl, hx⟩
    | lit =>
      intro lv i b hi hb
      have h1 := nx_lt0 (T := T) hi
      have h2 := nx_le0 (T := T) (i := i)
      have hm := hA.mono i _ h2 h1
      have args : ∀ {rs : List Rd}, (∀ r ∈ rs, GR n T r) → (tk T i).kind ≠ 3 → GoodO n T (SynG n T b) i (arguments T (tk T i) rs lv (nx T i)) := fun h hk => (arguments_g hA h h1 hb hm (hA.inn i hi hk)).back h2 fun _ _ _ _ h => h
      rw [rd]
      dsimp only
      split
      · exact notR_g hA (ih _) hi hb (isW_k (by assumption))
      split
      · exact ⟨h2, h1, leaf_g hb hm (hA.inn i hi (isW_k (by assumption)))⟩
      split
      · exact parens_g hA (ih _) hi hb
      split
      · exact args (two _ _ num num) (isW_k (by assumption))
      split
      · exact args (one _ num) (isW_k (by assumption))
      split
      · exact args (two _ _ num (ih _)) (isW_k (by assumption))
      split
      · exact args (two _ _ set (ih _)) (isW_k (by assumption))
      split
      · exact args (one _ (ih _)) (isW_k (by assumption))
      · exact fail_g hA hi
theorem part_g {f : Nat} {k : Int} (hA : Asc n T) (hi : i < T.length) (hb : b ≤ (tk T i).pos) (hk : (tk T i).kind ≠ 3) : GoodO n T (SynG n T b) i (part res T f k lv i) := by
  have h1 := nx_lt0 (T := T) hi
  have h2 := nx_le0 (T := T) (i := i)
  exact (rd_g hA f _ _ _ _ h1 (hA.mono i _ h2 h1)).bind h2 fun x j hj hl hx => ⟨by omega, hl, node_g hb (hA.mono _ _ (by omega) hl) (hA.inn i hi hk) (l := 0) (syns1 hx)⟩
theorem opt_g {f : Nat} {w : List UInt8} {k : Int} {xs : List Syn} (hA : Asc n T) (hi : i < T.length) (hb : b ≤ (tk T i).pos) (hx : SynsG n b xs 0) : GoodO n T (SynsG n b) i (optPart res T f w k xs lv i) := by
  unfold optPart
  split
  · exact (part_g hA hi hb (isW_k (by assumption))).bind (Nat.le_refl _) fun y j hj hl hy => ⟨hj, hl, hx.add hy⟩
  · exact ⟨Nat.le_refl _, hi, hx⟩
theorem decl_g {f : Nat} (hA : Asc n T) (hi : i < T.length) (hb : b ≤ (tk T i).pos) : GoodO n T (SynG n T b) i (declaration res T f lv i) := by
  have h1 := nx_lt0 (T := T) hi
  have h2 := nx_le0 (T := T) (i := i)
  have hm : ∀ {j}, i ≤ j → j < T.length → (tk T i).pos ≤ (tk T j).pos := fun hj hl => hA.mono i _ hj hl
  unfold declaration
  refine GoodO.bind (P := SynG n T b) (i := i) ?_ (Nat.le_refl _) fun x j hj hl hx => (need_g hA hl).bind hj fun _ k hk hl2 _ => ⟨by omega, hl2, hx.on hA hk hl2⟩
  split
  · have hn := hA.inn i hi (isW_k (by assumption))
    refine (name_g hA h1 (hm h2 h1)).bind h2 fun _ j1 g1 l1 _ => (need_g hA l1).bind (by omega) fun _ j2 g2 l2 _ => (number_g hA l2 (hm (by omega) l2)).bind (by omega) fun _ j3 g3 l3 _ => (need_g hA l3).bind (by omega) fun _ j4 g4 l4 _ => (number_g hA l4 (hm (by omega) l4)).bind (by omega) fun y j5 g5 l5 hy => (opt_g hA l5 (hm (by omega) l5) (syns1 hy)).bind (by omega) fun xs j6 g6 l6 hxs => ?_
    split
    · exact (part_g hA l6 (hm (by omega) l6) (isW_k (by assumption))).bind (by omega) fun z j7 g7 l7 hz => (opt_g hA l7 (hm (by omega) l7) (hxs.add hz)).bind (by omega) fun ys j8 g8 l8 hys => ⟨by omega, l8, node_g hb (hm (by omega) l8) hn (l := 0) hys⟩
    · exact fail_g hA l6
  split
  · have hn := hA.inn i hi (isW_k (by assumption))
    exact (name_g hA h1 (hm h2 h1)).bind h2 fun _ j1 g1 l1 _ => (need_g hA l1).bind (by omega) fun _ j2 g2 l2 _ => (rd_g hA f _ _ _ _ l2 (hm (by omega) l2)).bind (by omega) fun y j3 g3 l3 hy => ⟨by omega, l3, node_g hb (hm (by omega) l3) hn (l := 0) (syns1 hy)⟩
  split
  · have hn := hA.inn i hi (isW_k (by assumption))
    exact (name_g hA h1 (hm h2 h1)).bind h2 fun _ j1 g1 l1 _ => (need_g hA l1).bind (by omega) fun _ j2 g2 l2 _ => (rd_g hA f _ _ _ _ l2 (hm (by omega) l2)).bind (by omega) fun y j3 g3 l3 hy => ⟨by omega, l3, node_g hb (hm (by omega) l3) hn (l := 0) (syns1 hy)⟩
  split
  · have hn := hA.inn i hi (isW_k (by assumption))
    exact (name_g hA h1 (hm h2 h1)).bind h2 fun _ j1 g1 l1 _ => (need_g hA l1).bind (by omega) fun _ j2 g2 l2 _ => (name_g hA l2 (hm (by omega) l2)).bind (by omega) fun u j3 g3 l3 hu => (need_g hA l3).bind (by omega) fun _ j4 g4 l4 _ => (name_g hA l4 (hm (by omega) l4)).bind (by omega) fun v j5 g5 l5 hv => (need_g hA l5).bind (by omega) fun _ j6 g6 l6 _ => (number_g hA l6 (hm (by omega) l6)).bind (by omega) fun _ j7 g7 l7 _ => ⟨by omega, l7, node_g hb (hm (by omega) l7) hn (l := 0) (SynsG.cons hu (syns1 (l := 0) hv))⟩
  · exact fail_g hA hi
theorem declLoop_g {f : Nat} (hA : Asc n T) (g : Nat) : ∀ xs i, i < T.length → b ≤ (tk T i).pos → SynsG n b xs 0 → GoodO n T (SynsG n b) i (declLoop res T f lv g xs i) := by
  induction g with
  | zero => intro x i _ _ _; trivial
  | succ g ih =>
    intro xs i hi hb hx
    unfold declLoop
    split
    · exact ⟨Nat.le_refl _, hi, hx⟩
    · exact (decl_g hA hi hb).bind (Nat.le_refl _) fun y j hj hl hy => (ih _ _ hl (upto hA hb hj hl) (hx.add hy)).back hj fun _ _ _ _ h => h
theorem program_g {f : Nat} (hA : Asc n T) : GR n T (program res T f) := fun lv i b hi hb =>
  (need_g hA hi).bind (Nat.le_refl _) fun t j1 g1 l1 ht => (number_g hA l1 (hA.mono i _ g1 l1)).bind g1 fun _ j2 g2 l2 _ => (need_g hA l2).bind (by omega) fun _ j3 g3 l3 _ => (declLoop_g hA _ [] _ l3 (hA.mono i _ (by omega) l3) (fun z h => (List.not_mem_nil h).elim)).bind (by omega) fun xs j4 g4 l4 hxs => by
    obtain ⟨rfl, hn, _⟩ := ht
    exact ⟨by omega, l4, node_g hb (hA.mono _ _ (by omega) l4) hn (l := 0) hxs⟩
theorem whole_g {r : Rd} (hA : Asc n T) (h : GR n T r) (hT : 0 < T.length) : GoodO n T (fun x _ => 0 ≤ x.pos ∧ Ord n x) 0 (whole T r) := by
  unfold whole
  refine (h 0 0 0 hT (hA.low 0 hT)).bind (Nat.le_refl _) fun x j hj hl hx => ?_
  split
  · exact ⟨hj, hl, hx.1, hx.2.2⟩
  · exact fail_g hA hl
end
end Go.Proofs.YtplbfmcgddnkeaaGreatDoor
end
section
namespace Go.Proofs.YtplbfmcgddnkeaaGreatDoor
theorem stand_asc (s : List UInt8) : ∀ (ts : List Tok) (p : Nat), Stand s p ts → (∀ j, j < ts.length → (p : Int) ≤ (tk ts j).pos ∧ (tk ts j).pos + (tk ts j).text.length ≤ s.length) ∧ ∀ i j, i ≤ j → j < ts.length → (tk ts i).pos ≤ (tk ts j).pos
  | [], p, _ => ⟨fun j h => absurd h (Nat.not_lt_zero _), fun i j _ h => absurd h (Nat.not_lt_zero _)⟩
  | t :: r, p, h => by
    obtain ⟨h1, h2, h3, h4, h5⟩ := h
    obtain ⟨q1, q2⟩ := stand_asc s r _ h5
    have e : ∀ j, tk (t :: r) (j + 1) = tk r j := fun j => rfl
    have e0 : tk (t :: r) 0 = t := rfl
    refine ⟨fun j hj => ?_, fun i j hij hj => ?_⟩
    · cases j with
      | zero => rw [e0, h1]; omega
      | succ j =>
        have := q1 j (by simpa using hj)
        rw [e]; omega
    · cases j with
      | zero =>
        obtain rfl : i = 0 := by omega
        exact Int.le_refl _
      | succ j =>
        have hj' : j < r.length := by simpa using hj
        cases i with
        | zero =>
          have := q1 j hj'
          rw [e0, e, h1]; omega
        | succ i => rw [e, e]; exact q2 i j (by omega) hj'
theorem scan_asc {s : List UInt8} {T : List Tok} (h : scan s = .ok T) : Asc s.length T := by
  obtain ⟨q1, q2⟩ := stand_asc s T 0 (scan_stand h).1
  obtain ⟨C, hC, hx⟩ := scan_toks h
  refine ⟨q2, fun i hi => by have := q1 i hi; omega, fun i hi => by have := q1 i hi; omega, fun i hi hk => ?_⟩
  have h1 := q1 i hi
  have h2 : 0 < (tk T i).text.length := by
    rw [tk_text, hC]
    rw [tk_kind, hC] at hk
    rw [List.getD_eq_getElem?_getD] at hk ⊢
    rcases Nat.lt_or_ge i C.length with hl | hl
    · rw [List.getElem?_append_left hl, List.getElem?_eq_getElem hl]
      obtain ⟨k, _, ht⟩ := hx _ (List.getElem_mem hl)
      have := (tok_pos ht).1
      simpa using this
    · rw [List.getElem?_append_right hl] at hk
      exfalso
      apply hk
      cases hq : i - C.length with
      | zero => rfl
      | succ n => simp
  omega
end Go.Proofs.YtplbfmcgddnkeaaGreatDoor
end
section
namespace Go.Proofs.YtplbfmcgddnkeaaGreatDoor
def Tl (U : List Tok) (i : Nat) (K : List KT) : Prop := (kts U).drop i = K
section
variable {U : List Tok} {i : Nat} {K : List KT} {x : KT} {res : List UInt8 → Bool}
theorem tl_get (h : Tl U i (x :: K)) : (kts U).getD i ktEnd = x := by
  have h1 : ((kts U).drop i)[0]? = some x := by rw [show (kts U).drop i = _ from h]; rfl
  rw [List.getElem?_drop, Nat.add_zero] at h1
  rw [List.getD_eq_getElem?_getD, h1]; rfl
theorem tl_next (h : Tl U i (x :: K)) : Tl U (i + 1) K := by
  unfold Tl at h ⊢
  rw [← List.drop_drop, h]; rfl
theorem tl_lt (h : Tl U i (x :: K)) : i < U.length := by
  have := congrArg List.length (show (kts U).drop i = _ from h)
  rw [List.length_drop, kts_len, List.length_cons] at this
  omega
theorem tl_drop {A B : List KT} (h : Tl U i (A ++ B)) : Tl U (i + A.length) B := by
  unfold Tl at h ⊢
  rw [← List.drop_drop, h, List.drop_left]
theorem tl_zero (h : kts U = K) : Tl U 0 K := h
theorem tl_kind (h : Tl U i (x :: K)) : (tk U i).kind = x.1 := by rw [tk_kind, tl_get h]
theorem tl_text (h : Tl U i (x :: K)) : (tk U i).text = x.2 := by rw [tk_text, tl_get h]
theorem tl_nx {y : KT} (h : Tl U i (x :: y :: K)) : nx U i = i + 1 := by unfold nx; rw [if_pos (tl_lt (tl_next h))]
theorem tl_isW (h : Tl U i (x :: K)) (ws : List (List UInt8)) : isW U ws i = ((decide (x.1 = 2) || decide (x.1 = 0)) && ws.contains x.2) := by unfold isW; rw [tl_kind h, tl_text h]
theorem tl_need {y : KT} {k : Int} {w : List UInt8} (h : Tl U i ((k, w) :: y :: K)) (hk : k = 2 ∨ k = 0) : need U w i = .ok (tk U i) (i + 1) := by
  unfold need
  rw [tl_isW h, tl_nx h, if_pos]
  rcases hk with rfl | rfl <;> simp
theorem tl_number {y : KT} {w : List UInt8} (h : Tl U i ((1, w) :: y :: K)) : number U i = .ok (.mk 9 [] (dv 0 w : Nat) (tk U i).pos []) (i + 1) := by
  unfold number
  rw [tl_kind h, tl_nx h, tl_text h, if_neg (fun h => h rfl)]
theorem tl_name {y : KT} {w : List UInt8} (h : Tl U i ((0, w) :: y :: K)) (hr : res w = false) : name res U i = .ok (.mk 8 w 0 (tk U i).pos []) (i + 1) := by
  unfold name
  rw [tl_kind h, tl_nx h, tl_text h, if_neg]
  rintro (h | h)
  · exact h rfl
  · rw [hr] at h; cases h
theorem tl_lt' {A B : List KT} {b : KT} (h : Tl U i (A ++ b :: B)) : i < U.length := by
  have := congrArg List.length (show (kts U).drop i = _ from h)
  rw [List.length_drop, kts_len, List.length_append, List.length_cons] at this
  omega
end
def w0 : List UInt8 := [112, 114, 111, 99, 101, 115, 115, 101, 115]
section
variable {U : List Tok} {res : List UInt8 → Bool} {f i : Nat}
theorem tl_needL {K : List KT} {k : Int} {w : List UInt8} (h : Tl U i ((k, w) :: K)) (hk : k = 2 ∨ k = 0) (hl : i + 1 < U.length) : need U w i = .ok (tk U i) (i + 1) := by
  unfold need
  rw [tl_isW h, show nx U i = i + 1 from by unfold nx; rw [if_pos hl], if_pos]
  rcases hk with rfl | rfl <;> simp
theorem isW_T {c : KT} {K : List KT} {ws : List (List UInt8)} (h : Tl U i (c :: K)) (e : ((decide (c.1 = 2) || decide (c.1 = 0)) && ws.contains c.2) = true) : isW U ws i = true := by rw [tl_isW h]; exact e
theorem isW_F {c : KT} {K : List KT} {ws : List (List UInt8)} (h : Tl U i (c :: K)) (e : ((decide (c.1 = 2) || decide (c.1 = 0)) && ws.contains c.2) = false) : ¬ isW U ws i = true := by rw [tl_isW h, e]; decide
theorem bind_okk {α β : Type} (a : α) (i : Nat) (f : α → Nat → Out β) : (Out.ok a i).bind f = f a i := rfl
end
inductive Emb (x y z : Syn) : Syn → Prop
  | mk {p0 p1 p2 p3 p4 p5 p6 p7 p8 p9 : Int} {x1 x2 y1 z1 : Syn} (h1 : Twin Any x x1) (h2 : Twin Any x x2) (h3 : Twin Any y y1) (h4 : Twin Any z z1) :
    Emb x y z (.mk 0 [] 3 p0 [.mk 1 [116] 2 p1 [.mk 9 [] 4 p2 [], .mk 2 [] 0 p3 [x1], .mk 3 [] 0 p4 [x2]], .mk 5 [97] 0 p5 [y1], .mk 6 [102] 0 p6 [z1], .mk 7 [112] 1 p7 [.mk 8 [116] 0 p8 [], .mk 8 [97] 0 p9 []]])
end Go.Proofs.YtplbfmcgddnkeaaGreatDoor
end
section
namespace Go.Proofs.YtplbfmcgddnkeaaGreatDoor
def DO (x : Syn) (L : Nat) (o : Out Syn) : Prop := match o with | .ok y l => l = L ∧ Twin Any x y | .err _ e => e = 12 | .none => False
theorem DO.bind {x z : Syn} {L M : Nat} {o : Out Syn} {f : Syn → Nat → Out Syn} (h : DO x L o) (hf : ∀ y, Twin Any x y → DO z M (f y L)) : DO z M (o.bind f) := by
  cases o with
  | none => exact h
  | err p e => exact h
  | ok y l =>
    obtain ⟨rfl, h⟩ := h
    exact hf y h
section
variable {U : List Tok} {res : List UInt8 → Bool} {f lv i L : Nat} {x y : Syn} {K : List KT} {c : KT}
theorem unit_paren {A : List KT} (h : Tl U i ((2, [40]) :: A)) : rd res U (f + 1) .unit lv i = parens U (rd res U f .cond) lv i := by
  rw [rd]
  dsimp only
  rw [if_neg (by rw [tl_kind h]; show ¬ (2 : Int) = 1; decide), if_neg (isW_F h (by decide)), if_neg (isW_F h (by decide)), if_neg (isW_F h (by decide)), if_pos (isW_T h (by decide))]
theorem atom_paren {A : List KT} (h : Tl U i ((2, [40]) :: A)) : rd res U (f + 1) .atom lv i = parens U (rd res U f .scheme) lv i := by
  rw [rd]
  dsimp only
  rw [if_neg (isW_F h (by decide)), if_neg (isW_F h (by decide)), if_neg (isW_F h (by decide)), if_pos (isW_T h (by decide))]
theorem lit_paren {A : List KT} (h : Tl U i ((2, [40]) :: A)) : rd res U (f + 1) .lit lv i = parens U (rd res U f .formula) lv i := by
  rw [rd]
  dsimp only
  rw [if_neg (isW_F h (by decide)), if_neg (isW_F h (by decide)), if_pos (isW_T h (by decide))]
def noOp (ops : List (List UInt8)) (c : KT) : Prop := ((decide (c.1 = 2) || decide (c.1 = 0)) && ops.contains c.2) = false
theorem noOp.isW {ops : List (List UInt8)} (h : Tl U i (c :: K)) (hc : noOp ops c) : ¬ isW U ops i = true := isW_F h hc
def noGo (c : KT) : Prop := ∀ ws ∈ goesOn, noOp ws c
theorem noGo.of {ws : List (List UInt8)} (h : noGo c) (hw : ws ∈ goesOn := by simp [goesOn]) : noOp ws c := h ws hw
end
structure Reads (res : List UInt8 → Bool) (nt : NT) (s : List UInt8) (x : Syn) (T : List Tok) (C : List KT) (f j : Nat) : Prop where
  lx : Lx s (C ++ [ktEnd])
  kt : kts T = C ++ [ktEnd]
  tk : Toks C
  no : (35 : UInt8) ∉ s
  rd : whole T (Proofs.YtplbfmcgddnkeaaGreatDoor.rd res T f nt) = .ok x j
section
variable {res : List UInt8 → Bool} {nt : NT} {s : List UInt8} {x : Syn} {T U : List Tok} {C : List KT} {f g j i lv : Nat}
end
end Go.Proofs.YtplbfmcgddnkeaaGreatDoor
end
section
namespace Go.Proofs.YtplbfmcgddnkeaaGreatDoor
def DN (x : Syn) (L : Nat) (o : Out Syn) : Prop := match o with | .ok y l => l = L ∧ Twin Any x y | .err _ e => e = 12 | .none => True
theorem DN.bind {x z : Syn} {L M : Nat} {o : Out Syn} {f : Syn → Nat → Out Syn} (h : DN x L o) (hf : ∀ y, Twin Any x y → DN z M (f y L)) : DN z M (o.bind f) := by
  cases o with
  | none => exact h
  | err p e => exact h
  | ok y l =>
    obtain ⟨rfl, h⟩ := h
    exact hf y h
theorem dn_ok {x y : Syn} {L : Nat} (h : Twin Any x y) : DN x L (.ok y L) := ⟨rfl, h⟩
section
variable {U : List Tok} {res : List UInt8 → Bool} {f g lv i L M : Nat} {x y : Syn} {K A B : List KT} {c : KT} {r : Rd} {ops : List (List UInt8)}
theorem dn_within (h : DN x L (r (lv + 1) i)) : DN x L (within U r lv i) := by
  unfold within
  split
  · rfl
  · exact h
theorem dn_parens (h0 : Tl U i ((2, [40]) :: A)) (hi : i + 1 < U.length) (h : DN x L (r (lv + 1) (i + 1))) (h1 : Tl U L ((2, [41]) :: c :: B)) : DN x (L + 1) (parens U r lv i) := by
  unfold parens
  rw [tl_needL h0 (.inl rfl) hi, bind_okk]
  refine (dn_within h).bind fun y hy => ?_
  rw [tl_need h1 (.inl rfl), bind_okk]
  exact dn_ok hy
def SP (U : List Tok) (r : Rd) (ops : List (List UInt8)) (lv i : Nat) (x : Syn) (L : Nat) : Prop :=
  ∀ g, let o := (r lv i).bind fun y j => leftLoop U r ops lv g y j
    o = .none ∨ (∃ p, o = .err p 12) ∨ ∃ y g', Twin Any x y ∧ o = leftLoop U r ops lv g' y L
theorem sp_of (h : DN x L (r lv i)) : SP U r ops lv i x L := by
  intro g
  cases hr : r lv i with
  | none => exact .inl rfl
  | err p e => rw [hr] at h; obtain rfl : e = 12 := h; exact .inr (.inl ⟨p, rfl⟩)
  | ok y l =>
    rw [hr] at h
    obtain ⟨rfl, h⟩ := h
    exact .inr (.inr ⟨y, g, h, rfl⟩)
theorem sp_step {kd : Int} {op : List UInt8} {p : Int} (h : SP U r ops lv i x L) (h0 : Tl U L ((kd, op) :: c :: K)) (hk : kd = 2 ∨ kd = 0) (ho : op ∈ ops) (hy : DN y M (r lv (L + 1))) : SP U r ops lv i (.mk 11 op 0 p [x, y]) M := by
  intro g
  rcases h g with h | h | ⟨x', g', hx, h⟩
  · exact .inl h
  · exact .inr (.inl h)
  · show _ ∨ _
    rw [h]
    cases g' with
    | zero => exact .inl rfl
    | succ g' =>
      have hw : isW U ops L = true := isW_T h0 (by rcases hk with rfl | rfl <;> simpa using ho)
      rw [leftLoop, if_pos hw, tl_nx h0]
      cases hr : r lv (L + 1) with
      | none => exact .inl rfl
      | err p e => rw [hr] at hy; obtain rfl : e = 12 := hy; exact .inr (.inl ⟨p, rfl⟩)
      | ok y' l =>
        rw [hr] at hy
        obtain ⟨rfl, hy⟩ := hy
        refine .inr (.inr ⟨_, g', ?_, rfl⟩)
        rw [tl_text h0]
        exact .mk trivial (.cons hx (.cons hy .nil))
theorem sp_end (h : SP U r ops lv i x L) (ho : ¬ isW U ops L = true) : DN x L (left U r ops lv i) := by
  unfold left
  rcases h (U.length + 1) with h | ⟨p, h⟩ | ⟨y, g', hy, h⟩
  · rw [h]; trivial
  · rw [h]; rfl
  · rw [h]
    cases g' with
    | zero => trivial
    | succ g' => rw [leftLoop, if_neg ho]; exact dn_ok hy
end
def parK (b : Bool) (K : List KT) : List KT := if b then (2, [40]) :: (K ++ [(2, [41])]) else K
def opK (t : List UInt8) : KT := (if t ∈ cmps ∨ t ∈ sums then 2 else 0, t)
def ktc : Syn → List KT
  | .mk k t n _ [] => if k = 9 then [(1, dec n.toNat)] else [(0, t)]
  | .mk k t _ _ [a] => if k = 12 then (0, kNot) :: parK (decide (lvl 0 a < 2)) (ktc a) else (0, t) :: (2, [40]) :: (parK (decide (lvl 0 a < 4)) (ktc a) ++ [(2, [41])])
  | .mk k t _ _ [a, b] =>
    if k = 13 then if t = kCount then (0, t) :: (0, a.text) :: parK true (ktc b) else (0, t) :: (0, a.text) :: (2, [58]) :: ktc b
    else if k = 10 then (0, t) :: (2, [40]) :: (parK (decide (lvl 0 a < 4)) (ktc a) ++ (2, [44]) :: (parK (decide (lvl 0 b < 4)) (ktc b) ++ [(2, [41])]))
    else parK (looseB t a || decide (lvl 0 a < lft 0 t)) (ktc a) ++ opK t :: parK (decide (lvl 0 b < rgt 0 t)) (ktc b)
  | _ => []
theorem dv_step (n : Nat) (d : Nat) (hd : d < 10) (l : List UInt8) : dv n (UInt8.ofNat (48 + d) :: l) = dv (10 * n + d) l := by
  rw [dv_cons]
  have : (UInt8.ofNat (48 + d)).toNat = 48 + d := by rw [UInt8.toNat_ofNat']; omega
  rw [this]; congr 1; omega
theorem decGo_dv : ∀ f n l, n < f → dv 0 (decGo f n l) = dv n l := by
  intro f
  induction f with
  | zero => intro n l h; omega
  | succ f ih =>
    intro n l h
    rw [decGo]
    split
    · rename_i h1; rw [dv_step 0 n h1]; congr 1; omega
    · rename_i h1
      rw [ih _ _ (by omega), dv_step _ _ (Nat.mod_lt _ (by omega))]
      congr 1; omega
theorem dec_dv (n : Nat) : dv 0 (dec n) = n := decGo_dv _ _ _ (by omega)
theorem digit_ofNat {d : Nat} (hd : d < 10) : isDigit (UInt8.ofNat (48 + d)).toNat = true := by
  have : (UInt8.ofNat (48 + d)).toNat = 48 + d := by rw [UInt8.toNat_ofNat']; omega
  rw [this]; unfold isDigit; simp; omega
theorem decGo_digit : ∀ f n l, n < f → (∀ c ∈ l, isDigit c.toNat = true) → decGo f n l ≠ [] ∧ ∀ c ∈ decGo f n l, isDigit c.toNat = true := by
  intro f
  induction f with
  | zero => intro n l h; omega
  | succ f ih =>
    intro n l h hl
    rw [decGo]
    split
    · rename_i h1
      refine ⟨List.cons_ne_nil _ _, fun c hc => ?_⟩
      rcases List.mem_cons.1 hc with rfl | hc
      · exact digit_ofNat h1
      · exact hl c hc
    · rename_i h1
      refine ih _ _ (by omega) fun c hc => ?_
      rcases List.mem_cons.1 hc with rfl | hc
      · exact digit_ofNat (Nat.mod_lt _ (by omega))
      · exact hl c hc
theorem runLen_of_all {p : Int → Bool} : ∀ {l : List UInt8}, (∀ c ∈ l, p c.toNat = true) → runLen p l = l.length
  | [], _ => rfl
  | c :: r, h => by rw [runLen, if_pos (h c (List.mem_cons_self ..)), runLen_of_all fun d hd => h d (List.mem_cons_of_mem _ hd)]; rfl
theorem runLen_no {p : Int → Bool} {c : UInt8} {r : List UInt8} (h : p c.toNat = false) : runLen p (c :: r) = 0 := by rw [runLen, if_neg (by rw [h]; decide)]
theorem dec_tok {n : Nat} (h : n ≤ 1048576) : tok (dec n) = .ok (1, (dec n).length) := by
  obtain ⟨h0, h1⟩ := decGo_digit (n + 1) n [] (by omega) (fun c hc => (List.not_mem_nil hc).elim)
  have hw : runLen isWordy (dec n) = (dec n).length := runLen_of_all fun c hc => by unfold isWordy; rw [h1 c hc]; simp
  have hd : runLen isDigit (dec n) = (dec n).length := runLen_of_all h1
  have hl : runLen isLetter (dec n) = 0 := by
    cases hq : dec n with
    | nil => rfl
    | cons c r =>
      refine runLen_no ?_
      have := h1 c (by show c ∈ dec n; rw [hq]; exact List.mem_cons_self ..)
      unfold isDigit at this
      unfold isLetter
      simp at this ⊢
      omega
  have hp : 0 < (dec n).length := List.length_pos_iff.2 h0
  unfold tok
  rw [hw, hd, hl, if_neg (by omega), if_pos rfl, if_neg (by omega), List.take_length, valGo_eq _ _ (by omega), dec_dv, if_pos h]
  simp
theorem nameB_tok {s : List UInt8} (h : nameB s = true) : tok s = .ok (0, s.length) ∧ reservedB s = false := by
  unfold nameB at h
  simp only [Bool.and_eq_true, Bool.not_eq_true'] at h
  refine ⟨?_, h.2⟩
  have h1 := h.1
  rw [formedB, if_neg (by decide), if_neg (by decide)] at h1
  simp only [Bool.and_eq_true, decide_eq_true_eq, Bool.not_eq_true'] at h1
  obtain ⟨⟨⟨h2, h3⟩, h4⟩, h5⟩ := h1
  have hp : 0 < runLen isWordy s := by
    rw [h3]
    cases s with
    | nil => simp at h2
    | cons c r => simp
  have := wordRes_tok hp
  rw [h3, List.take_length, if_pos h4] at this
  rw [this]
  have : (wordRes s).1 = 0 := by exact_mod_cast h5
  rw [this]
theorem not_kw {s : List UInt8} (h : reservedB s = false) (ws : List (List UInt8)) (hw : ∀ w ∈ ws, w ∈ kwTexts) : ws.contains s = false := by
  cases hc : ws.contains s with
  | false => rfl
  | true =>
    have : s ∈ kwTexts := hw s (by simpa using hc)
    rw [reservedB, decide_eq_false_iff_not] at h
    exact absurd this h
end Go.Proofs.YtplbfmcgddnkeaaGreatDoor
end
