/- Joined: Fwd. -/
import Derived.Test.YtekccolabhfopaaGreatDoorJ04
set_option linter.unusedVariables false
set_option linter.unusedSimpArgs false
section
/- Plain facts: a reader goes on by a token at least; no program in sight. -/
namespace Go.Proofs.YtekccolabhfopaaGreatDoor
/-- It goes on. -/
def On {α : Type} (T : List Tok) (i : Nat) (o : Out α) : Prop := ∀ a j, o = .ok a j → i < j ∧ j < T.length
def On0 {α : Type} (T : List Tok) (i : Nat) (o : Out α) : Prop := ∀ a j, o = .ok a j → i ≤ j ∧ j < T.length
section
variable {T : List Tok} {i lv : Nat} (hl : (tk T (T.length - 1)).kind = 3) {res : List UInt8 → Bool}
theorem nx_on (hl : (tk T (T.length - 1)).kind = 3) (hi : i < T.length) (hk : (tk T i).kind ≠ 3) : nx T i = i + 1 ∧ i + 1 < T.length := by
  have : i + 1 < T.length := by
    rcases Nat.lt_or_ge (i + 1) T.length with h | h
    · exact h
    · have : i = T.length - 1 := by omega
      subst this; exact absurd hl hk
  exact ⟨if_pos this, this⟩
theorem isW_kind {ws : List (List UInt8)} (h : isW T ws i = true) : (tk T i).kind ≠ 3 := by
  intro e
  unfold isW at h
  rw [e] at h
  simp at h
theorem On.bind {α β : Type} {o : Out α} {f : α → Nat → Out β} (h : On T i o) (hf : ∀ a j, i < j → j < T.length → On0 T j (f a j)) : On T i (o.bind f) := by
  cases o with
  | none => intro b j e; cases e
  | err p e => intro b j e; cases e
  | ok a k =>
    obtain ⟨h1, h2⟩ := h a k rfl
    intro b j e
    obtain ⟨h3, h4⟩ := hf a k h1 h2 b j e
    exact ⟨by omega, h4⟩
theorem On.zero {α : Type} {o : Out α} (h : On T i o) : On0 T i o := fun a j e => ⟨Nat.le_of_lt (h a j e).1, (h a j e).2⟩
theorem On0.bind {α β : Type} {o : Out α} {f : α → Nat → Out β} (h : On0 T i o) (hf : ∀ a j, i ≤ j → j < T.length → On0 T j (f a j)) : On0 T i (o.bind f) := by
  cases o with
  | none => intro b j e; cases e
  | err p e => intro b j e; cases e
  | ok a k =>
    obtain ⟨h1, h2⟩ := h a k rfl
    intro b j e
    obtain ⟨h3, h4⟩ := hf a k h1 h2 b j e
    exact ⟨by omega, h4⟩
theorem On0.ok {α : Type} {a : α} (hi : i < T.length) : On0 T i (.ok a i) := fun b j e => by cases e; exact ⟨Nat.le_refl _, hi⟩
theorem On.step {α : Type} {a : α} (hl : (tk T (T.length - 1)).kind = 3) (hi : i < T.length) (hk : (tk T i).kind ≠ 3) : On T i (.ok a (nx T i)) := fun b j e => by
  obtain ⟨h1, h2⟩ := nx_on hl hi hk
  cases e; omega
theorem On.fail {α : Type} (e : Nat) : On T i (fail T e i : Out α) := fun _ _ e => by cases e
theorem need_on (hl : (tk T (T.length - 1)).kind = 3) (s : List UInt8) (hi : i < T.length) : On T i (need T s i) := by
  unfold need
  split
  · rename_i h; exact On.step hl hi (isW_kind h)
  · exact On.fail _
theorem name_on (hl : (tk T (T.length - 1)).kind = 3) (hi : i < T.length) : On T i (name res T i) := by
  unfold name
  split
  · exact On.fail _
  · rename_i h
    refine On.step hl hi fun e => h (.inl ?_)
    rw [e]; decide
theorem number_on (hl : (tk T (T.length - 1)).kind = 3) (hi : i < T.length) : On T i (number T i) := by
  unfold number
  split
  · exact On.fail _
  · rename_i h
    refine On.step hl hi fun e => h ?_
    rw [e]; decide
/-- What is read behind a token that is no end. -/
theorem On.behind {α : Type} {o : Out α} (hl : (tk T (T.length - 1)).kind = 3) (hi : i < T.length) (hk : (tk T i).kind ≠ 3) (h : ∀ j, i < j → j < T.length → nx T i = j → On0 T j o) : On T i o := fun a j e => by
  obtain ⟨h1, h2⟩ := nx_on hl hi hk
  obtain ⟨h3, h4⟩ := h (i + 1) (by omega) h2 h1 a j e
  exact ⟨by omega, h4⟩
def OnR (T : List Tok) (r : Rd) : Prop := ∀ lv i, i < T.length → On T i (r lv i)
theorem within_on {r : Rd} (hr : OnR T r) (hi : i < T.length) : On T i (within T r lv i) := by
  unfold within
  split
  · exact On.fail _
  · exact hr _ _ hi
theorem parens_on {r : Rd} (hl : (tk T (T.length - 1)).kind = 3) (hr : OnR T r) (hi : i < T.length) : On T i (parens T r lv i) :=
  (need_on hl _ hi).bind fun _ _ _ h => ((within_on hr h).bind fun _ _ _ h => ((need_on hl _ h).bind fun _ _ _ h => On0.ok h).zero).zero
theorem argsMore_on {rs : List Rd} (hl : (tk T (T.length - 1)).kind = 3) (hr : ∀ r ∈ rs, OnR T r) : ∀ i, i < T.length → On0 T i (argsGo.argsMore T rs lv i) := by
  induction rs with
  | nil => intro i hi; exact On0.ok hi
  | cons r rs ih =>
    intro i hi
    exact ((need_on hl _ hi).bind fun _ _ _ h => ((hr r (List.mem_cons_self ..) _ _ h).bind fun _ _ _ h => (ih (fun r h => hr r (List.mem_cons_of_mem _ h)) _ h).bind fun _ _ _ h => On0.ok h).zero).zero
theorem argsGo_on {rs : List Rd} (hl : (tk T (T.length - 1)).kind = 3) (hr : ∀ r ∈ rs, OnR T r) (hi : i < T.length) : On0 T i (argsGo T rs lv i) := by
  cases rs with
  | nil => exact On0.ok hi
  | cons r rs => exact ((hr r (List.mem_cons_self ..) _ _ hi).bind fun _ _ _ h => (argsMore_on hl (fun r h => hr r (List.mem_cons_of_mem _ h)) _ h).bind fun _ _ _ h => On0.ok h).zero
theorem arguments_on {rs : List Rd} {w : Tok} (hl : (tk T (T.length - 1)).kind = 3) (hr : ∀ r ∈ rs, OnR T r) (hi : i < T.length) : On T i (arguments T w rs lv i) :=
  (need_on hl _ hi).bind fun _ _ _ h => by
    split
    · exact (On.fail _).zero
    · exact (argsGo_on hl hr h).bind fun _ _ _ h => ((need_on hl _ h).bind fun _ _ _ h => On0.ok h).zero
theorem leftLoop_on {r : Rd} {ops : List (List UInt8)} (hl : (tk T (T.length - 1)).kind = 3) (hr : OnR T r) (g : Nat) : ∀ x i, i < T.length → On0 T i (leftLoop T r ops lv g x i) := by
  induction g with
  | zero => intro x i _ a j e; cases e
  | succ g ih =>
    intro x i hi
    unfold leftLoop
    split
    · rename_i h
      refine (On.behind hl hi (isW_kind h) fun j h1 h2 e => ?_).zero
      rw [e]
      exact ((hr _ _ h2).bind fun _ _ _ h => ih _ _ h).zero
    · exact On0.ok hi
theorem left_on {r : Rd} {ops : List (List UInt8)} (hl : (tk T (T.length - 1)).kind = 3) (hr : OnR T r) : OnR T (left T r ops) := fun _ _ hi => (hr _ _ hi).bind fun _ _ _ h => leftLoop_on hl hr _ _ _ h
theorem setLoop_on (hl : (tk T (T.length - 1)).kind = 3) (g : Nat) : ∀ xs i, i < T.length → On0 T i (setLoop T g xs i) := by
  induction g with
  | zero => intro x i _ a j e; cases e
  | succ g ih =>
    intro x i hi
    unfold setLoop
    split
    · rename_i h
      refine (On.behind hl hi (isW_kind h) fun j h1 h2 e => ?_).zero
      rw [e]
      exact ((number_on hl h2).bind fun _ _ _ h => ih _ _ h).zero
    · exact On0.ok hi
theorem setR_on (hl : (tk T (T.length - 1)).kind = 3) (hi : i < T.length) : On T i (setR T i) := by
  unfold setR
  split
  · rename_i h; exact On.step hl hi (isW_kind h)
  · refine (need_on hl _ hi).bind fun _ j _ hj => ?_
    split
    · rename_i h; exact (On.step hl hj (isW_kind h)).zero
    · exact ((number_on hl hj).bind fun _ _ _ h => (setLoop_on hl _ _ _ h).bind fun _ _ _ h => ((need_on hl _ h).bind fun _ _ _ h => On0.ok h).zero).zero
theorem notR_on {r : Rd} (hl : (tk T (T.length - 1)).kind = 3) (hr : OnR T r) (hi : i < T.length) (hk : (tk T i).kind ≠ 3) : On T i (notR T r lv i) :=
  On.behind hl hi hk fun j _ h2 e => by
    unfold notR
    rw [e]
    exact ((within_on hr h2).bind fun _ _ _ h => On0.ok h).zero
theorem rd_on (hl : (tk T (T.length - 1)).kind = 3) (f : Nat) : ∀ nt, OnR T (rd res T f nt) := by
  induction f with
  | zero => intro nt lv i _ a j e; cases e
  | succ f ih =>
    intro nt
    cases nt with
    | cond => exact left_on hl (ih _)
    | conj => exact left_on hl (ih _)
    | sum => exact left_on hl (ih _)
    | scheme => exact left_on hl (ih _)
    | term => exact left_on hl (ih _)
    | disj => exact left_on hl (ih _)
    | meet => exact left_on hl (ih _)
    | neg =>
      intro lv i hi
      show On T i (if _ then _ else if _ then _ else _)
      split
      · rename_i h; exact notR_on hl (ih _) hi (isW_kind h)
      · split
        · rename_i h
          refine On.behind hl hi (isW_kind h) fun j _ h2 e => ?_
          rw [e]
          exact ((name_on hl h2).bind fun _ _ _ h => ((need_on hl _ h).bind fun _ _ _ h => ((within_on (ih _) h).bind fun _ _ _ h => On0.ok h).zero).zero).zero
        · refine (ih .sum lv i hi).bind fun x j _ hj => ?_
          split
          · rename_i h
            refine (On.behind hl hj (isW_kind h) fun k _ h2 e => ?_).zero
            rw [e]
            exact ((ih .sum lv _ h2).bind fun _ _ _ h => On0.ok h).zero
          · exact On0.ok hj
    | unit =>
      intro lv i hi
      show On T i (if _ then _ else if _ then _ else if _ then _ else if _ then _ else if _ then _ else _)
      split
      · exact number_on hl hi
      · split
        · rename_i h
          refine On.behind hl hi (isW_kind h) fun j _ h2 e => ?_
          rw [e]
          exact (arguments_on hl (fun r hr => by rw [List.mem_singleton.1 hr]; exact ih _) h2).zero
        · split
          · rename_i h
            refine On.behind hl hi (isW_kind h) fun j _ h2 e => ?_
            rw [e]
            exact (arguments_on hl (fun r hr => by simp only [List.mem_cons, List.not_mem_nil, or_false, or_self] at hr; rw [hr]; exact ih _) h2).zero
          · split
            · rename_i h
              refine On.behind hl hi (isW_kind h) fun j _ h2 e => ?_
              rw [e]
              exact ((name_on hl h2).bind fun _ _ _ h => ((parens_on hl (ih _) h).bind fun _ _ _ h => On0.ok h).zero).zero
            · split
              · exact parens_on hl (ih _) hi
              · exact name_on hl hi
    | factor =>
      intro lv i hi
      refine (ih .atom lv i hi).bind fun x j _ hj => ?_
      split
      · rename_i h
        refine (On.behind hl hj (isW_kind h) fun k _ h2 e => ?_).zero
        rw [e]
        exact ((number_on hl h2).bind fun _ _ _ h => ((within_on (ih _) h).bind fun _ _ _ h => On0.ok h).zero).zero
      · exact On0.ok hj
    | atom =>
      intro lv i hi
      show On T i (if _ then _ else if _ then _ else if _ then _ else if _ then _ else _)
      split
      · rename_i h
        refine On.behind hl hi (isW_kind h) fun j _ h2 e => ?_
        rw [e]
        exact (arguments_on hl (fun r hr => by rw [List.mem_singleton.1 hr]; exact fun _ _ h => number_on hl h) h2).zero
      · split
        · rename_i h; exact On.step hl hi (isW_kind h)
        · split
          · rename_i h
            refine On.behind hl hi (isW_kind h) fun j _ h2 e => ?_
            rw [e]
            exact (arguments_on hl (fun r hr => by rw [List.mem_singleton.1 hr]; exact ih _) h2).zero
          · split
            · exact parens_on hl (ih _) hi
            · exact name_on hl hi
    | formula =>
      intro lv i hi
      refine (ih .disj lv i hi).bind fun x j _ hj => ?_
      split
      · rename_i h
        refine (On.behind hl hj (isW_kind h) fun k _ h2 e => ?_).zero
        rw [e]
        exact ((within_on (ih _) h2).bind fun _ _ _ h => On0.ok h).zero
      · exact On0.ok hj
    | lit =>
      intro lv i hi
      show On T i (if _ then _ else if _ then _ else if _ then _ else if _ then _ else if _ then _ else if _ then _ else if _ then _ else if _ then _ else _)
      have hargs : ∀ rs, isW T rs i = true → ∀ rds : List Rd, (∀ r ∈ rds, OnR T r) → On T i (arguments T (tk T i) rds lv (nx T i)) := fun rs h rds hr =>
        On.behind hl hi (isW_kind h) fun j _ h2 e => by rw [e]; exact (arguments_on hl hr h2).zero
      have hnum : OnR T (fun _ => number T) := fun _ _ h => number_on hl h
      have hset : OnR T (fun _ => setR T) := fun _ _ h => setR_on hl h
      split
      · rename_i h; exact notR_on hl (ih _) hi (isW_kind h)
      · split
        · rename_i h; exact On.step hl hi (isW_kind h)
        · split
          · exact parens_on hl (ih _) hi
          · split
            · rename_i h; exact hargs _ h _ fun r hr => by simp only [List.mem_cons, List.not_mem_nil, or_false, or_self] at hr; rw [hr]; exact hnum
            · split
              · rename_i h; exact hargs _ h _ fun r hr => by rw [List.mem_singleton.1 hr]; exact hnum
              · split
                · rename_i h; exact hargs _ h _ fun r hr => by
                    simp only [List.mem_cons, List.not_mem_nil, or_false] at hr
                    rcases hr with rfl | rfl
                    · exact hnum
                    · exact ih _
                · split
                  · rename_i h; exact hargs _ h _ fun r hr => by
                      simp only [List.mem_cons, List.not_mem_nil, or_false] at hr
                      rcases hr with rfl | rfl
                      · exact hset
                      · exact ih _
                  · split
                    · rename_i h; exact hargs _ h _ fun r hr => by rw [List.mem_singleton.1 hr]; exact ih _
                    · exact On.fail _
end
end Go.Proofs.YtekccolabhfopaaGreatDoor
end
