/- Joined: Sml. -/
import Derived.Test.YtekccolabhfopaaGreatDoorJ04
set_option linter.unusedVariables false
set_option linter.unusedSimpArgs false
section
/- Plain facts: the nodes of a parsed tree have few kids; no program in sight. -/
namespace Go.Proofs.YtekccolabhfopaaGreatDoor
/-- A tree with few kids at each node. -/
inductive Small : Syn → Prop
  | mk {kd : Int} {tx : List UInt8} {n a : Int} {k : List Syn} (h : k.length ≤ 1000000) (hk : ∀ z ∈ k, Small z) : Small (.mk kd tx n a k)
def AllO {α : Type} (P : α → Prop) (o : Out α) : Prop := match o with | .ok a _ => P a | _ => True
theorem AllO.bind {α β : Type} {P : α → Prop} {Q : β → Prop} {o : Out α} {f : α → Nat → Out β} (h : AllO P o) (hf : ∀ a j, P a → AllO Q (f a j)) : AllO Q (o.bind f) := by
  cases o with
  | none => trivial
  | err p e => trivial
  | ok a j => exact hf a j h
abbrev SmO (o : Out Syn) : Prop := AllO Small o
abbrev SmL (m : Nat) (o : Out (List Syn)) : Prop := AllO (fun l => l.length ≤ m ∧ ∀ z ∈ l, Small z) o
theorem small0 {k : Int} {tx : List UInt8} {n a : Int} : Small (.mk k tx n a []) := .mk (by simp) (fun z h => (List.not_mem_nil h).elim)
theorem small1 {k : Int} {tx : List UInt8} {n a : Int} {x : Syn} (h : Small x) : Small (.mk k tx n a [x]) := .mk (by simp) (fun z hz => by rw [List.mem_singleton.1 hz]; exact h)
theorem small2 {k : Int} {tx : List UInt8} {n a : Int} {x y : Syn} (h : Small x) (h' : Small y) : Small (.mk k tx n a [x, y]) := .mk (by simp) (fun z hz => by
  rcases List.mem_cons.1 hz with rfl | hz
  · exact h
  · rw [List.mem_singleton.1 hz]; exact h')
section
variable {res : List UInt8 → Bool} {T : List Tok} {lv i : Nat}
theorem fail_sm {α : Type} {P : α → Prop} {e j : Nat} : AllO P (fail T e j : Out α) := trivial
theorem need_sm {w : List UInt8} : AllO (fun _ => True) (need T w i) := by unfold need; split <;> trivial
theorem name_sm : SmO (name res T i) := by
  unfold name
  split
  · trivial
  · exact small0
theorem number_sm : SmO (number T i) := by
  unfold number
  split
  · trivial
  · exact small0
def SmR (r : Rd) : Prop := ∀ lv i, SmO (r lv i)
theorem within_sm {r : Rd} (h : SmR r) : SmO (within T r lv i) := by
  unfold within
  split
  · trivial
  · exact h _ _
theorem parens_sm {r : Rd} (h : SmR r) : SmO (parens T r lv i) := need_sm.bind fun _ _ _ => (within_sm h).bind fun _ _ hx => need_sm.bind fun _ _ _ => hx
theorem argsMore_sm {rs : List Rd} (hr : ∀ r ∈ rs, SmR r) : ∀ i, SmL rs.length (argsGo.argsMore T rs lv i) := by
  induction rs with
  | nil => intro i; exact ⟨by simp, fun z h => (List.not_mem_nil h).elim⟩
  | cons r rs ih =>
    intro i
    exact need_sm.bind fun _ _ _ => (hr r (List.mem_cons_self ..) _ _).bind fun x _ hx => (ih (fun r h => hr r (List.mem_cons_of_mem _ h)) _).bind fun xs _ hxs => ⟨by simp only [List.length_cons]; have := hxs.1; omega, fun z hz => by
      rcases List.mem_cons.1 hz with rfl | hz
      · exact hx
      · exact hxs.2 z hz⟩
theorem argsGo_sm {rs : List Rd} (hr : ∀ r ∈ rs, SmR r) : SmL rs.length (argsGo T rs lv i) := by
  cases rs with
  | nil => exact ⟨by simp, fun z h => (List.not_mem_nil h).elim⟩
  | cons r rs =>
    exact (hr r (List.mem_cons_self ..) _ _).bind fun x _ hx => (argsMore_sm (fun r h => hr r (List.mem_cons_of_mem _ h)) _).bind fun xs _ hxs => ⟨by simp only [List.length_cons]; have := hxs.1; omega, fun z hz => by
      rcases List.mem_cons.1 hz with rfl | hz
      · exact hx
      · exact hxs.2 z hz⟩
theorem arguments_sm {rs : List Rd} {w : Tok} (hl : rs.length ≤ 1000000) (hr : ∀ r ∈ rs, SmR r) : SmO (arguments T w rs lv i) := need_sm.bind fun _ _ _ => by
  split
  · trivial
  · exact (argsGo_sm hr).bind fun xs _ hxs => need_sm.bind fun _ _ _ => Small.mk (Nat.le_trans hxs.1 hl) hxs.2
theorem leftLoop_sm {r : Rd} {ops : List (List UInt8)} (h : SmR r) (g : Nat) : ∀ x i, Small x → SmO (leftLoop T r ops lv g x i) := by
  induction g with
  | zero => intro x i _; trivial
  | succ g ih =>
    intro x i hx
    unfold leftLoop
    split
    · exact (h _ _).bind fun y _ hy => ih _ _ (small2 hx hy)
    · exact hx
theorem left_sm {r : Rd} {ops : List (List UInt8)} (h : SmR r) : SmR (left T r ops) := fun _ _ => (h _ _).bind fun _ _ hx => leftLoop_sm h _ _ _ hx
theorem setLoop_sm (g : Nat) : ∀ xs i, (∀ z ∈ xs, Small z) → SmL (xs.length + g) (setLoop T g xs i) := by
  induction g with
  | zero => intro x i _; trivial
  | succ g ih =>
    intro xs i hx
    unfold setLoop
    split
    · refine number_sm.bind fun y _ hy => ?_
      have := ih (xs ++ [y]) ?_ (fun z hz => by
        rcases List.mem_append.1 hz with hz | hz
        · exact hx z hz
        · rw [List.mem_singleton.1 hz]; exact hy)
      · rw [List.length_append, List.length_singleton] at this
        rw [show xs.length + (g + 1) = xs.length + 1 + g by omega]
        exact this
    · exact ⟨by omega, hx⟩
theorem set_sm (hT : T.length ≤ 900000) : SmO (setR T i) := by
  unfold setR
  split
  · exact small0
  · refine need_sm.bind fun _ j _ => ?_
    split
    · exact small0
    · exact number_sm.bind fun x _ hx => (setLoop_sm _ [x] _ (fun z hz => by rw [List.mem_singleton.1 hz]; exact hx)).bind fun xs _ hxs => need_sm.bind fun _ _ _ => Small.mk (by have := hxs.1; simp only [List.length_singleton] at this; omega) hxs.2
theorem notR_sm {r : Rd} (h : SmR r) : SmO (notR T r lv i) := (within_sm h).bind fun _ _ hx => small1 hx
theorem rd_sm (hT : T.length ≤ 900000) (f : Nat) : ∀ nt, SmR (rd res T f nt) := by
  induction f with
  | zero => intro nt lv i; trivial
  | succ f ih =>
    have one : ∀ r : Rd, SmR r → ∀ q ∈ [r], SmR q := fun r h q hq => by rw [List.mem_singleton.1 hq]; exact h
    have two : ∀ r p : Rd, SmR r → SmR p → ∀ q ∈ [r, p], SmR q := fun r p h h' q hq => by
      rcases List.mem_cons.1 hq with rfl | hq
      · exact h
      · rw [List.mem_singleton.1 hq]; exact h'
    have num : SmR (fun _ => number T) := fun _ _ => number_sm
    have set : SmR (fun _ => setR T) := fun _ _ => set_sm hT
    intro nt
    cases nt with
    | cond => exact left_sm (ih _)
    | conj => exact left_sm (ih _)
    | sum => exact left_sm (ih _)
    | scheme => exact left_sm (ih _)
    | term => exact left_sm (ih _)
    | disj => exact left_sm (ih _)
    | meet => exact left_sm (ih _)
    | neg =>
      intro lv i
      rw [rd]
      dsimp only
      split
      · exact notR_sm (ih _)
      split
      · exact name_sm.bind fun _ _ hv => need_sm.bind fun _ _ _ => (within_sm (ih _)).bind fun _ _ hx => small2 hv hx
      · refine (ih .sum _ _).bind fun x j hx => ?_
        split
        · exact (ih .sum _ _).bind fun y _ hy => small2 hx hy
        · exact hx
    | unit =>
      intro lv i
      rw [rd]
      dsimp only
      split
      · exact number_sm
      split
      · exact arguments_sm (by simp) (one _ (ih _))
      split
      · exact arguments_sm (by simp) (two _ _ (ih _) (ih _))
      split
      · exact name_sm.bind fun _ _ hv => (parens_sm (ih _)).bind fun _ _ hx => small2 hv hx
      split
      · exact parens_sm (ih _)
      · exact name_sm
    | factor =>
      intro lv i
      rw [rd]
      dsimp only
      refine (ih .atom _ _).bind fun x j hx => ?_
      split
      · exact number_sm.bind fun _ _ _ => (within_sm (ih _)).bind fun y _ hy => small2 hx hy
      · exact hx
    | atom =>
      intro lv i
      rw [rd]
      dsimp only
      split
      · exact arguments_sm (by simp) (one _ num)
      split
      · exact small0
      split
      · exact arguments_sm (by simp) (one _ (ih _))
      split
      · exact parens_sm (ih _)
      · exact name_sm
    | formula =>
      intro lv i
      rw [rd]
      dsimp only
      refine (ih .disj _ _).bind fun x j hx => ?_
      split
      · exact (within_sm (ih _)).bind fun y _ hy => small2 hx hy
      · exact hx
    | lit =>
      intro lv i
      rw [rd]
      dsimp only
      split
      · exact notR_sm (ih _)
      split
      · exact small0
      split
      · exact parens_sm (ih _)
      split
      · exact arguments_sm (by simp) (two _ _ num num)
      split
      · exact arguments_sm (by simp) (one _ num)
      split
      · exact arguments_sm (by simp) (two _ _ num (ih _))
      split
      · exact arguments_sm (by simp) (two _ _ set (ih _))
      split
      · exact arguments_sm (by simp) (one _ (ih _))
      · trivial
theorem part_sm (hT : T.length ≤ 900000) {f : Nat} {k : Int} : SmO (part res T f k lv i) := (rd_sm hT f _ _ _).bind fun _ _ hx => small1 hx
theorem opt_sm (hT : T.length ≤ 900000) {f m : Nat} {k : Int} {w : List UInt8} {xs : List Syn} (hl : xs.length ≤ m) (hx : ∀ z ∈ xs, Small z) : SmL (m + 1) (optPart res T f w k xs lv i) := by
  unfold optPart
  split
  · exact (part_sm hT).bind fun y _ hy => ⟨by rw [List.length_append, List.length_singleton]; omega, fun z hz => by
      rcases List.mem_append.1 hz with hz | hz
      · exact hx z hz
      · rw [List.mem_singleton.1 hz]; exact hy⟩
  · exact ⟨by omega, hx⟩
theorem decl_sm (hT : T.length ≤ 900000) {f : Nat} : SmO (declaration res T f lv i) := by
  unfold declaration
  refine AllO.bind (P := Small) ?_ fun x _ hx => need_sm.bind fun _ _ _ => hx
  split
  · refine name_sm.bind fun _ _ _ => need_sm.bind fun _ _ _ => number_sm.bind fun _ _ _ => need_sm.bind fun _ _ _ => number_sm.bind fun b _ hb => (opt_sm hT (m := 1) (by simp) (fun z hz => by rw [List.mem_singleton.1 hz]; exact hb)).bind fun xs _ hxs => ?_
    split
    · exact (part_sm hT).bind fun y _ hy => (opt_sm hT (m := 3) (by rw [List.length_append, List.length_singleton]; have := hxs.1; omega) (fun z hz => by
        rcases List.mem_append.1 hz with hz | hz
        · exact hxs.2 z hz
        · rw [List.mem_singleton.1 hz]; exact hy)).bind fun ys _ hys => Small.mk (by have := hys.1; omega) hys.2
    · trivial
  split
  · exact name_sm.bind fun _ _ _ => need_sm.bind fun _ _ _ => (rd_sm hT f _ _ _).bind fun _ _ hx => small1 hx
  split
  · exact name_sm.bind fun _ _ _ => need_sm.bind fun _ _ _ => (rd_sm hT f _ _ _).bind fun _ _ hx => small1 hx
  split
  · exact name_sm.bind fun _ _ _ => need_sm.bind fun _ _ _ => name_sm.bind fun _ _ ha => need_sm.bind fun _ _ _ => name_sm.bind fun _ _ hb => need_sm.bind fun _ _ _ => number_sm.bind fun _ _ _ => small2 ha hb
  · trivial
theorem declLoop_sm (hT : T.length ≤ 900000) {f : Nat} (g : Nat) : ∀ xs i, (∀ z ∈ xs, Small z) → SmL (xs.length + g) (declLoop res T f lv g xs i) := by
  induction g with
  | zero => intro x i _; trivial
  | succ g ih =>
    intro xs i hx
    unfold declLoop
    split
    · exact ⟨by omega, hx⟩
    · refine (decl_sm hT).bind fun y _ hy => ?_
      have := ih (xs ++ [y]) ?_ (fun z hz => by
        rcases List.mem_append.1 hz with hz | hz
        · exact hx z hz
        · rw [List.mem_singleton.1 hz]; exact hy)
      · rw [List.length_append, List.length_singleton] at this
        rw [show xs.length + (g + 1) = xs.length + 1 + g by omega]
        exact this
theorem program_sm (hT : T.length ≤ 900000) {f : Nat} : SmR (program res T f) := fun lv i =>
  need_sm.bind fun _ _ _ => number_sm.bind fun _ _ _ => need_sm.bind fun _ _ _ => (declLoop_sm hT _ [] _ (fun z h => (List.not_mem_nil h).elim)).bind fun xs _ hxs => Small.mk (by have := hxs.1; simp only [List.length_nil] at this; omega) hxs.2
theorem whole_sm {r : Rd} (h : SmO (r 0 0)) : SmO (whole T r) := by
  unfold whole
  refine h.bind fun x _ hx => ?_
  split
  · exact hx
  · trivial
end
end Go.Proofs.YtekccolabhfopaaGreatDoor
end
