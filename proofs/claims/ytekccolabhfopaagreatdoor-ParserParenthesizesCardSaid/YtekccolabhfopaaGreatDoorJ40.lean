/- Joined: Alk, Sub. -/
import Derived.Test.YtekccolabhfopaaGreatDoorJ13
import Derived.Test.YtekccolabhfopaaGreatDoorJ08
set_option linter.unusedVariables false
set_option linter.unusedSimpArgs false
section
/- Plain facts: from tokens that are alike but for their places the readers make trees that are alike but for their offsets; no program in sight. -/
namespace Go.Proofs.YtekccolabhfopaaGreatDoor
/-- Tokens that are alike but for their places. -/
structure AlkT (T U : List Tok) : Prop where
  len : T.length = U.length
  kind : ∀ i, (tk T i).kind = (tk U i).kind
  text : ∀ i, (tk T i).text = (tk U i).text
abbrev Any : Int → Int → Prop := fun _ _ => True
/-- Two outcomes are alike. -/
def TwO {α β : Type} (R : α → β → Prop) (o : Out α) (u : Out β) : Prop :=
  match o, u with | .none, .none => True | .err _ e, .err _ f => e = f | .ok a i, .ok b j => i = j ∧ R a b | _, _ => False
theorem TwO.bind {α β γ δ : Type} {R : α → β → Prop} {Q : γ → δ → Prop} {o : Out α} {u : Out β} {f : α → Nat → Out γ} {g : β → Nat → Out δ} (h : TwO R o u) (hf : ∀ a b i, R a b → TwO Q (f a i) (g b i)) : TwO Q (o.bind f) (u.bind g) := by
  cases o <;> cases u <;> simp only [TwO] at h
  · exact h
  · exact h
  · obtain ⟨rfl, h⟩ := h
    exact hf _ _ _ h
theorem two_ok {α β : Type} {R : α → β → Prop} {a : α} {b : β} {i : Nat} (h : R a b) : TwO R (.ok a i) (.ok b i) := ⟨rfl, h⟩
abbrev TwS (o u : Out Syn) : Prop := TwO (Twin Any) o u
abbrev TwL (o u : Out (List Syn)) : Prop := TwO (TwinL Any) o u
section
variable {T U : List Tok} {res : List UInt8 → Bool} {lv i : Nat}
theorem fail_k {α β : Type} {R : α → β → Prop} {e j : Nat} : TwO R (fail T e j : Out α) (fail U e j : Out β) := rfl
theorem AlkT.isW (h : AlkT T U) (ws : List (List UInt8)) (i : Nat) : isW T ws i = Proofs.YtekccolabhfopaaGreatDoor.isW U ws i := by unfold Proofs.YtekccolabhfopaaGreatDoor.isW; rw [h.kind, h.text]
theorem AlkT.nx (h : AlkT T U) (i : Nat) : nx T i = Proofs.YtekccolabhfopaaGreatDoor.nx U i := by unfold Proofs.YtekccolabhfopaaGreatDoor.nx; rw [h.len]
theorem need_k {w : List UInt8} (h : AlkT T U) : TwO (fun a b => a.kind = b.kind ∧ a.text = b.text) (need T w i) (need U w i) := by
  unfold need
  rw [h.isW, h.nx]
  split
  · exact ⟨rfl, h.kind i, h.text i⟩
  · exact fail_k
theorem name_k (h : AlkT T U) : TwS (name res T i) (name res U i) := by
  unfold name
  rw [h.kind, h.text, h.nx]
  split
  · exact fail_k
  · exact ⟨rfl, .mk trivial .nil⟩
theorem number_k (h : AlkT T U) : TwS (number T i) (number U i) := by
  unfold number
  rw [h.kind, h.text, h.nx]
  split
  · exact fail_k
  · exact ⟨rfl, .mk trivial .nil⟩
def KR (r q : Rd) : Prop := ∀ lv i, TwS (r lv i) (q lv i)
theorem within_k {r q : Rd} (h : KR r q) : TwS (within T r lv i) (within U q lv i) := by
  unfold within
  split
  · exact fail_k
  · exact h _ _
theorem parens_k {r q : Rd} (hA : AlkT T U) (h : KR r q) : TwS (parens T r lv i) (parens U q lv i) := (need_k hA).bind fun _ _ _ _ => (within_k h).bind fun _ _ _ hx => (need_k hA).bind fun _ _ _ _ => ⟨rfl, hx⟩
/-- Lists of readers that are alike. -/
inductive KRs : List Rd → List Rd → Prop
  | nil : KRs [] []
  | cons {r q : Rd} {rs qs : List Rd} (h : KR r q) (hr : KRs rs qs) : KRs (r :: rs) (q :: qs)
theorem argsMore_k {rs qs : List Rd} (hA : AlkT T U) (h : KRs rs qs) : ∀ i, TwL (argsGo.argsMore T rs lv i) (argsGo.argsMore U qs lv i) := by
  induction h with
  | nil => intro i; exact ⟨rfl, .nil⟩
  | cons h _ ih => intro i; exact (need_k hA).bind fun _ _ _ _ => (h _ _).bind fun _ _ _ hx => (ih _).bind fun _ _ _ hxs => ⟨rfl, .cons hx hxs⟩
theorem argsGo_k {rs qs : List Rd} (hA : AlkT T U) (h : KRs rs qs) : TwL (argsGo T rs lv i) (argsGo U qs lv i) := by
  cases h with
  | nil => exact ⟨rfl, .nil⟩
  | cons h hr => exact (h _ _).bind fun _ _ _ hx => (argsMore_k hA hr _).bind fun _ _ _ hxs => ⟨rfl, .cons hx hxs⟩
theorem arguments_k {rs qs : List Rd} {w v : Tok} (hA : AlkT T U) (h : KRs rs qs) (hw : w.text = v.text) : TwS (arguments T w rs lv i) (arguments U v qs lv i) := (need_k hA).bind fun _ _ _ _ => by
  split
  · exact fail_k
  · refine (argsGo_k hA h).bind fun _ _ _ hxs => (need_k hA).bind fun _ _ _ _ => ?_
    rw [hw]
    exact ⟨rfl, .mk trivial hxs⟩
theorem binary_k {op : List UInt8} {num : Int} {x y x' y' : Syn} (hx : Twin Any x x') (hy : Twin Any y y') : Twin Any (binary op num x y) (binary op num x' y') := .mk trivial (.cons hx (.cons hy .nil))
theorem leftLoop_k {r q : Rd} {ops : List (List UInt8)} (hA : AlkT T U) (h : KR r q) (g : Nat) : ∀ x x' i, Twin Any x x' → TwS (leftLoop T r ops lv g x i) (leftLoop U q ops lv g x' i) := by
  induction g with
  | zero => intro x x' i _; trivial
  | succ g ih =>
    intro x x' i hx
    unfold leftLoop
    rw [hA.isW, hA.nx, hA.text]
    split
    · exact (h _ _).bind fun y y' _ hy => ih _ _ _ (binary_k hx hy)
    · exact ⟨rfl, hx⟩
theorem left_k {r q : Rd} {ops : List (List UInt8)} (hA : AlkT T U) (h : KR r q) : KR (left T r ops) (left U q ops) := fun _ _ => (h _ _).bind fun _ _ _ hx => by rw [hA.len]; exact leftLoop_k hA h _ _ _ _ hx
theorem setLoop_k (hA : AlkT T U) (g : Nat) : ∀ xs xs' i, TwinL Any xs xs' → TwL (setLoop T g xs i) (setLoop U g xs' i) := by
  induction g with
  | zero => intro x x' i _; trivial
  | succ g ih =>
    intro xs xs' i hx
    unfold setLoop
    rw [hA.isW, hA.nx]
    split
    · exact (number_k hA).bind fun y y' _ hy => ih _ _ _ (hx.add hy)
    · exact ⟨rfl, hx⟩
theorem set_k (hA : AlkT T U) : TwS (setR T i) (setR U i) := by
  unfold setR
  rw [hA.isW, hA.nx, hA.text, hA.len]
  split
  · exact ⟨rfl, .mk trivial .nil⟩
  · refine (need_k hA).bind fun _ _ j _ => ?_
    rw [hA.isW, hA.nx]
    split
    · exact ⟨rfl, .mk trivial .nil⟩
    · exact (number_k hA).bind fun x x' _ hx => (setLoop_k hA _ _ _ _ (.cons hx .nil)).bind fun xs xs' _ hxs => (need_k hA).bind fun _ _ _ _ => ⟨rfl, .mk trivial hxs⟩
theorem notR_k {r q : Rd} (hA : AlkT T U) (h : KR r q) : TwS (notR T r lv i) (notR U q lv i) := by
  unfold notR
  rw [hA.nx]
  exact (within_k h).bind fun _ _ _ hx => ⟨rfl, .mk trivial (.cons hx .nil)⟩
theorem rd_k (hA : AlkT T U) (f : Nat) : ∀ nt, KR (rd res T f nt) (rd res U f nt) := by
  induction f with
  | zero => intro nt lv i; trivial
  | succ f ih =>
    have one : ∀ {r q : Rd}, KR r q → KRs [r] [q] := fun h => .cons h .nil
    have two : ∀ {r q r' q' : Rd}, KR r q → KR r' q' → KRs [r, r'] [q, q'] := fun h h' => .cons h (.cons h' .nil)
    have num : KR (fun _ => number T) (fun _ => number U) := fun _ _ => number_k hA
    have set : KR (fun _ => setR T) (fun _ => setR U) := fun _ _ => set_k hA
    intro nt
    cases nt with
    | cond => exact left_k hA (ih _)
    | conj => exact left_k hA (ih _)
    | sum => exact left_k hA (ih _)
    | scheme => exact left_k hA (ih _)
    | term => exact left_k hA (ih _)
    | disj => exact left_k hA (ih _)
    | meet => exact left_k hA (ih _)
    | neg =>
      intro lv i
      rw [rd, rd]
      dsimp only
      rw [hA.isW, hA.isW, hA.nx, hA.text]
      split
      · exact notR_k hA (ih _)
      split
      · exact (name_k hA).bind fun _ _ _ hv => (need_k hA).bind fun _ _ _ _ => (within_k (ih _)).bind fun _ _ _ hx => ⟨rfl, .mk trivial (.cons hv (.cons hx .nil))⟩
      · refine (ih .sum _ _).bind fun x x' j hx => ?_
        rw [hA.isW, hA.nx, hA.text]
        split
        · exact (ih .sum _ _).bind fun y y' _ hy => ⟨rfl, binary_k hx hy⟩
        · exact ⟨rfl, hx⟩
    | unit =>
      intro lv i
      rw [rd, rd]
      dsimp only
      rw [hA.kind, hA.isW, hA.isW, hA.isW, hA.isW, hA.nx, hA.text]
      split
      · exact number_k hA
      split
      · exact arguments_k hA (one (ih _)) (hA.text _)
      split
      · exact arguments_k hA (two (ih _) (ih _)) (hA.text _)
      split
      · exact (name_k hA).bind fun _ _ _ hv => (parens_k hA (ih _)).bind fun _ _ _ hx => ⟨rfl, .mk trivial (.cons hv (.cons hx .nil))⟩
      split
      · exact parens_k hA (ih _)
      · exact name_k hA
    | factor =>
      intro lv i
      rw [rd, rd]
      dsimp only
      refine (ih .atom _ _).bind fun x x' j hx => ?_
      rw [hA.isW, hA.nx]
      split
      · refine (number_k hA).bind fun n n' _ hn => ?_
        rw [hn.num_eq]
        exact (within_k (ih _)).bind fun y y' _ hy => ⟨rfl, binary_k hx hy⟩
      · exact ⟨rfl, hx⟩
    | atom =>
      intro lv i
      rw [rd, rd]
      dsimp only
      rw [hA.isW, hA.isW, hA.isW, hA.isW, hA.nx, hA.text]
      split
      · exact arguments_k hA (one num) (hA.text _)
      split
      · exact ⟨rfl, .mk trivial .nil⟩
      split
      · exact arguments_k hA (one (ih _)) (hA.text _)
      split
      · exact parens_k hA (ih _)
      · exact name_k hA
    | formula =>
      intro lv i
      rw [rd, rd]
      dsimp only
      refine (ih .disj _ _).bind fun x x' j hx => ?_
      rw [hA.isW, hA.nx]
      split
      · exact (within_k (ih _)).bind fun y y' _ hy => ⟨rfl, binary_k hx hy⟩
      · exact ⟨rfl, hx⟩
    | lit =>
      intro lv i
      rw [rd, rd]
      dsimp only
      rw [hA.isW, hA.isW, hA.isW, hA.isW, hA.isW, hA.isW, hA.isW, hA.isW, hA.nx, hA.text]
      split
      · exact notR_k hA (ih _)
      split
      · exact ⟨rfl, .mk trivial .nil⟩
      split
      · exact parens_k hA (ih _)
      split
      · exact arguments_k hA (two num num) (hA.text _)
      split
      · exact arguments_k hA (one num) (hA.text _)
      split
      · exact arguments_k hA (two num (ih _)) (hA.text _)
      split
      · exact arguments_k hA (two set (ih _)) (hA.text _)
      split
      · exact arguments_k hA (one (ih _)) (hA.text _)
      · exact fail_k
theorem part_k {f : Nat} {k : Int} (hA : AlkT T U) : TwS (part res T f k lv i) (part res U f k lv i) := by
  unfold part
  rw [hA.nx]
  exact (rd_k hA f _ _ _).bind fun _ _ _ hx => ⟨rfl, .mk trivial (.cons hx .nil)⟩
theorem opt_k {f : Nat} {w : List UInt8} {k : Int} {xs xs' : List Syn} (hA : AlkT T U) (hx : TwinL Any xs xs') : TwL (optPart res T f w k xs lv i) (optPart res U f w k xs' lv i) := by
  unfold optPart
  rw [hA.isW]
  split
  · exact (part_k hA).bind fun y y' _ hy => ⟨rfl, hx.add hy⟩
  · exact ⟨rfl, hx⟩
theorem decl_k {f : Nat} (hA : AlkT T U) : TwS (declaration res T f lv i) (declaration res U f lv i) := by
  unfold declaration
  refine TwO.bind (R := Twin Any) ?_ fun x x' _ hx => (need_k hA).bind fun _ _ _ _ => ⟨rfl, hx⟩
  rw [hA.isW, hA.isW, hA.isW, hA.isW, hA.nx]
  split
  · refine (name_k hA).bind fun nm nm' _ hnm => (need_k hA).bind fun _ _ _ _ => (number_k hA).bind fun a a' _ ha => (need_k hA).bind fun _ _ _ _ => (number_k hA).bind fun _ _ _ hb => (opt_k hA (.cons hb .nil)).bind fun xs xs' j hxs => ?_
    rw [hA.isW, hnm.text_eq, ha.num_eq]
    split
    · exact (part_k hA).bind fun _ _ _ hz => (opt_k hA (hxs.add hz)).bind fun _ _ _ hys => ⟨rfl, .mk trivial hys⟩
    · exact fail_k
  split
  · refine (name_k hA).bind fun nm nm' _ hnm => (need_k hA).bind fun _ _ _ _ => (rd_k hA f _ _ _).bind fun _ _ _ hx => ?_
    rw [hnm.text_eq]
    exact ⟨rfl, .mk trivial (.cons hx .nil)⟩
  split
  · refine (name_k hA).bind fun nm nm' _ hnm => (need_k hA).bind fun _ _ _ _ => (rd_k hA f _ _ _).bind fun _ _ _ hx => ?_
    rw [hnm.text_eq]
    exact ⟨rfl, .mk trivial (.cons hx .nil)⟩
  split
  · refine (name_k hA).bind fun nm nm' _ hnm => (need_k hA).bind fun _ _ _ _ => (name_k hA).bind fun _ _ _ ha => (need_k hA).bind fun _ _ _ _ => (name_k hA).bind fun _ _ _ hb => (need_k hA).bind fun _ _ _ _ => (number_k hA).bind fun n n' _ hn => ?_
    rw [hnm.text_eq, hn.num_eq]
    exact ⟨rfl, .mk trivial (.cons ha (.cons hb .nil))⟩
  · exact fail_k
theorem declLoop_k {f : Nat} (hA : AlkT T U) (g : Nat) : ∀ xs xs' i, TwinL Any xs xs' → TwL (declLoop res T f lv g xs i) (declLoop res U f lv g xs' i) := by
  induction g with
  | zero => intro x x' i _; trivial
  | succ g ih =>
    intro xs xs' i hx
    unfold declLoop
    rw [hA.kind]
    split
    · exact ⟨rfl, hx⟩
    · exact (decl_k hA).bind fun y y' _ hy => ih _ _ _ (hx.add hy)
theorem program_k {f : Nat} (hA : AlkT T U) : KR (program res T f) (program res U f) := fun lv i =>
  (need_k hA).bind fun t t' _ _ => (number_k hA).bind fun n n' _ hn => (need_k hA).bind fun _ _ _ _ => by
    rw [hA.len, hn.num_eq]
    exact (declLoop_k hA _ [] [] _ .nil).bind fun _ _ _ hxs => ⟨rfl, .mk trivial hxs⟩
theorem whole_k {r q : Rd} (hA : AlkT T U) (h : KR r q) : TwS (whole T r) (whole U q) := by
  unfold whole
  refine (h 0 0).bind fun x x' j hx => ?_
  rw [hA.kind]
  split
  · exact ⟨rfl, hx⟩
  · exact fail_k
end
end Go.Proofs.YtekccolabhfopaaGreatDoor
end
section
/- Plain facts: what the readers make of the tokens of a text they make of them amid other tokens, too, if what stands behind goes on with nothing; no program in sight. -/
namespace Go.Proofs.YtekccolabhfopaaGreatDoor
/-- The operators that go on. -/
def goesOn : List (List (List UInt8)) := [[kOr], [kAnd], [[43], [45]], [[61], [33, 61], [60], [60, 61]], [[116, 104, 101, 110]], [[117, 110, 116, 105, 108]], [[44]]]
/-- The first m tokens of T stand in U from index d on. -/
structure SubT (T U : List Tok) (m d : Nat) : Prop where
  len : T.length = m + 1
  lst : (tk T m).kind = 3
  inn : ∀ i, i < m → (tk T i).kind ≠ 3
  ulen : m + d < U.length
  kind : ∀ i, i < m → (tk T i).kind = (tk U (i + d)).kind
  text : ∀ i, i < m → (tk T i).text = (tk U (i + d)).text
  stop : ∀ ws ∈ goesOn, isW U ws (m + d) = false
/-- Where the one reader answers, the other one does, or is too deep. -/
def SimO {α β : Type} (m d dl : Nat) (R : α → β → Prop) (o : Out α) (u : Out β) : Prop :=
  match o with
  | .ok a j => match u with | .ok b l => j ≤ m ∧ l = j + d ∧ R a b | .err _ e => e = 12 ∧ 0 < dl | .none => False
  | _ => True
section
variable {T U : List Tok} {res : List UInt8 → Bool} {lv i m d dl : Nat}
theorem SimO.bind {α β γ δ : Type} {R : α → β → Prop} {Q : γ → δ → Prop} {o : Out α} {u : Out β} {f : α → Nat → Out γ} {g : β → Nat → Out δ} (h : SimO m d dl R o u) (hf : ∀ a b j, j ≤ m → R a b → SimO m d dl Q (f a j) (g b (j + d))) : SimO m d dl Q (o.bind f) (u.bind g) := by
  cases o with
  | none => trivial
  | err p e => trivial
  | ok a j =>
    cases u with
    | none => exact h.elim
    | err p e =>
      show SimO m d dl Q (f a j) (.err p e)
      cases f a j with
      | none => trivial
      | err p e => trivial
      | ok b l => exact h
    | ok b l =>
      obtain ⟨h1, rfl, h2⟩ := h
      exact hf _ _ _ h1 h2
theorem sim_not {α β : Type} {R : α → β → Prop} {o : Out α} {u : Out β} (h : ∀ a j, o ≠ .ok a j) : SimO m d dl R o u := by
  cases o with
  | none => trivial
  | err p e => trivial
  | ok a j => exact absurd rfl (h a j)
theorem SubT.last (h : SubT T U m d) : (tk T (T.length - 1)).kind = 3 := by rw [h.len, Nat.add_sub_cancel]; exact h.lst
theorem SubT.isN (h : SubT T U m d) (ws : List (List UInt8)) : isW T ws m = false := by unfold isW; rw [h.lst]; rfl
theorem SubT.isE (h : SubT T U m d) (ws : List (List UInt8)) (hi : i < m) : isW T ws i = isW U ws (i + d) := by unfold isW; rw [h.kind i hi, h.text i hi]
theorem SubT.isS (h : SubT T U m d) {ws : List (List UInt8)} (hw : ws ∈ goesOn) (hi : i ≤ m) : isW T ws i = isW U ws (i + d) := by
  rcases Nat.lt_or_ge i m with hl | hl
  · exact h.isE ws hl
  · obtain rfl : i = m := by omega
    rw [h.isN, h.stop ws hw]
theorem SubT.lt (h : SubT T U m d) {ws : List (List UInt8)} (hi : i ≤ m) (hw : isW T ws i = true) : i < m := by
  rcases Nat.lt_or_ge i m with hl | hl
  · exact hl
  · obtain rfl : i = m := by omega
    rw [h.isN] at hw; cases hw
theorem SubT.nT (h : SubT T U m d) (hi : i < m) : nx T i = i + 1 := by unfold nx; rw [if_pos (by have := h.len; omega)]
theorem SubT.nU (h : SubT T U m d) (hi : i < m) : nx U (i + d) = i + 1 + d := by unfold nx; rw [if_pos (by have := h.ulen; omega)]; omega
theorem SubT.le (h : SubT T U m d) : T.length ≤ U.length := by have := h.len; have := h.ulen; omega
theorem need_b {w : List UInt8} (h : SubT T U m d) (hi : i ≤ m) : SimO m d dl (fun a b => a.kind = b.kind ∧ a.text = b.text) (need T w i) (need U w (i + d)) := by
  unfold need
  rcases Nat.lt_or_ge i m with hl | hl
  · rw [h.isE _ hl]
    split
    · rw [h.nT hl, h.nU hl]; exact ⟨hl, rfl, h.kind i hl, h.text i hl⟩
    · trivial
  · obtain rfl : i = m := by omega
    rw [h.isN]; trivial
theorem name_b (h : SubT T U m d) (hi : i ≤ m) : SimO m d dl (Twin Any) (name res T i) (name res U (i + d)) := by
  unfold name
  rcases Nat.lt_or_ge i m with hl | hl
  · rw [h.kind i hl, h.text i hl, h.nT hl, h.nU hl]
    split
    · trivial
    · exact ⟨hl, rfl, .mk trivial .nil⟩
  · obtain rfl : i = m := by omega
    rw [h.lst, if_pos (.inl (by decide))]; trivial
theorem number_b (h : SubT T U m d) (hi : i ≤ m) : SimO m d dl (Twin Any) (number T i) (number U (i + d)) := by
  unfold number
  rcases Nat.lt_or_ge i m with hl | hl
  · rw [h.kind i hl, h.text i hl, h.nT hl, h.nU hl]
    split
    · trivial
    · exact ⟨hl, rfl, .mk trivial .nil⟩
  · obtain rfl : i = m := by omega
    rw [h.lst, if_pos (by decide)]; trivial
def BR (m d dl : Nat) (r q : Rd) : Prop := ∀ lv i, i ≤ m → SimO m d dl (Twin Any) (r lv i) (q (lv + dl) (i + d))
theorem deep_b {α β : Type} {R : α → β → Prop} {o : Out α} {e j : Nat} (he : e = 12) (hd : 0 < dl) : SimO m d dl R o (fail U e j : Out β) := by
  cases o with
  | none => trivial
  | err p e => trivial
  | ok a j => exact ⟨he, hd⟩
theorem within_b {r q : Rd} (h : BR m d dl r q) (hi : i ≤ m) : SimO m d dl (Twin Any) (within T r lv i) (within U q (lv + dl) (i + d)) := by
  unfold within
  split
  · trivial
  · split
    · exact deep_b rfl (by omega)
    · rw [show lv + dl + 1 = lv + 1 + dl by omega]
      exact h _ _ hi
theorem parens_b {r q : Rd} (hA : SubT T U m d) (h : BR m d dl r q) (hi : i ≤ m) : SimO m d dl (Twin Any) (parens T r lv i) (parens U q (lv + dl) (i + d)) := (need_b hA hi).bind fun _ _ _ hj _ => (within_b h hj).bind fun _ _ _ hk hx => (need_b hA hk).bind fun _ _ _ hl _ => ⟨hl, rfl, hx⟩
inductive BRs (m d dl : Nat) : List Rd → List Rd → Prop
  | nil : BRs m d dl [] []
  | cons {r q : Rd} {rs qs : List Rd} (h : BR m d dl r q) (hr : BRs m d dl rs qs) : BRs m d dl (r :: rs) (q :: qs)
theorem argsMore_b {rs qs : List Rd} (hA : SubT T U m d) (h : BRs m d dl rs qs) : ∀ i, i ≤ m → SimO m d dl (TwinL Any) (argsGo.argsMore T rs lv i) (argsGo.argsMore U qs (lv + dl) (i + d)) := by
  induction h with
  | nil => intro i hi; exact ⟨hi, rfl, .nil⟩
  | cons h _ ih => intro i hi; exact (need_b hA hi).bind fun _ _ _ hj _ => (h _ _ hj).bind fun _ _ _ hk hx => (ih _ hk).bind fun _ _ _ hl hxs => ⟨hl, rfl, .cons hx hxs⟩
theorem argsGo_b {rs qs : List Rd} (hA : SubT T U m d) (h : BRs m d dl rs qs) (hi : i ≤ m) : SimO m d dl (TwinL Any) (argsGo T rs lv i) (argsGo U qs (lv + dl) (i + d)) := by
  cases h with
  | nil => exact ⟨hi, rfl, .nil⟩
  | cons h hr => exact (h _ _ hi).bind fun _ _ _ hj hx => (argsMore_b hA hr _ hj).bind fun _ _ _ hl hxs => ⟨hl, rfl, .cons hx hxs⟩
theorem arguments_b {rs qs : List Rd} {w v : Tok} (hA : SubT T U m d) (h : BRs m d dl rs qs) (hw : w.text = v.text) (hi : i ≤ m) : SimO m d dl (Twin Any) (arguments T w rs lv i) (arguments U v qs (lv + dl) (i + d)) := (need_b hA hi).bind fun _ _ _ hj _ => by
  split
  · trivial
  · split
    · exact deep_b rfl (by omega)
    · rw [show lv + dl + 1 = lv + 1 + dl by omega, hw]
      exact (argsGo_b hA h hj).bind fun _ _ _ hk hxs => (need_b hA hk).bind fun _ _ _ hl _ => ⟨hl, rfl, .mk trivial hxs⟩
theorem leftLoop_b {r q : Rd} {ops : List (List UInt8)} (hA : SubT T U m d) (ho : ops ∈ goesOn) (h : BR m d dl r q) (g : Nat) : ∀ g' x x' i, g ≤ g' → i ≤ m → Twin Any x x' → SimO m d dl (Twin Any) (leftLoop T r ops lv g x i) (leftLoop U q ops (lv + dl) g' x' (i + d)) := by
  induction g with
  | zero => intro g' x x' i _ _ _; trivial
  | succ g ih =>
    intro g' x x' i hg hi hx
    obtain ⟨g', rfl⟩ : ∃ k, g' = k + 1 := ⟨g' - 1, by omega⟩
    unfold leftLoop
    rw [← hA.isS ho hi]
    split
    · rename_i hw
      have hl := hA.lt hi hw
      rw [hA.nT hl, hA.nU hl, hA.text i hl]
      exact (h _ _ hl).bind fun y y' _ hj hy => ih _ _ _ _ (by omega) hj (binary_k hx hy)
    · exact ⟨hi, rfl, hx⟩
theorem left_b {r q : Rd} {ops : List (List UInt8)} (hA : SubT T U m d) (ho : ops ∈ goesOn) (h : BR m d dl r q) : BR m d dl (left T r ops) (left U q ops) := fun _ _ hi => (h _ _ hi).bind fun _ _ _ hj hx => leftLoop_b hA ho h _ _ _ _ _ (by have := hA.le; omega) hj hx
theorem setLoop_b (hA : SubT T U m d) (g : Nat) : ∀ g' xs xs' i, g ≤ g' → i ≤ m → TwinL Any xs xs' → SimO m d dl (TwinL Any) (setLoop T g xs i) (setLoop U g' xs' (i + d)) := by
  induction g with
  | zero => intro g' x x' i _ _ _; trivial
  | succ g ih =>
    intro g' xs xs' i hg hi hx
    obtain ⟨g', rfl⟩ : ∃ k, g' = k + 1 := ⟨g' - 1, by omega⟩
    unfold setLoop
    rw [← hA.isS (by simp [goesOn]) hi]
    split
    · rename_i hw
      have hl := hA.lt hi hw
      rw [hA.nT hl, hA.nU hl]
      exact (number_b hA hl).bind fun y y' _ hj hy => ih _ _ _ _ (by omega) hj (hx.add hy)
    · exact ⟨hi, rfl, hx⟩
theorem set_b (hA : SubT T U m d) (hi : i < m) : SimO m d dl (Twin Any) (setR T i) (setR U (i + d)) := by
  unfold setR
  rw [hA.isE _ hi, hA.nT hi, hA.nU hi, hA.text i hi]
  split
  · exact ⟨hi, rfl, .mk trivial .nil⟩
  · refine (need_b hA (by omega)).bind fun _ _ j hj _ => ?_
    rcases Nat.lt_or_ge j m with hl | hl
    · rw [hA.isE _ hl, hA.nT hl, hA.nU hl]
      split
      · exact ⟨hl, rfl, .mk trivial .nil⟩
      · exact (number_b hA hj).bind fun x x' _ hk hx => (setLoop_b hA _ _ _ _ _ (by have := hA.le; omega) hk (.cons hx .nil)).bind fun xs xs' _ hp hxs => (need_b hA hp).bind fun _ _ _ hq _ => ⟨hq, rfl, .mk trivial hxs⟩
    · obtain rfl : j = m := by omega
      rw [hA.isN]
      refine sim_not fun a l => ?_
      rw [if_neg (by decide)]
      unfold number
      rw [hA.lst, if_pos (by decide)]
      intro h; cases h
theorem notR_b {r q : Rd} (hA : SubT T U m d) (h : BR m d dl r q) (hi : i < m) : SimO m d dl (Twin Any) (notR T r lv i) (notR U q (lv + dl) (i + d)) := by
  unfold notR
  rw [hA.nT hi, hA.nU hi]
  exact (within_b h hi).bind fun _ _ _ hj hx => ⟨hj, rfl, .mk trivial (.cons hx .nil)⟩
theorem rd_b (hA : SubT T U m d) (f : Nat) : ∀ f' nt, f ≤ f' → BR m d dl (rd res T f nt) (rd res U f' nt) := by
  induction f with
  | zero => intro f' nt _ lv i _; trivial
  | succ f ih =>
    intro f' nt hf
    obtain ⟨f', rfl⟩ : ∃ k, f' = k + 1 := ⟨f' - 1, by omega⟩
    replace ih := fun nt => ih f' nt (by omega)
    have hge : ∀ nt lv, SimO m d dl (Twin Any) (rd res T (f + 1) nt lv m) (rd res U (f' + 1) nt (lv + dl) (m + d)) := fun nt lv => sim_not fun a j e => by
      have := rd_on hA.last (f + 1) nt lv m (by have := hA.len; omega) a j e
      have := hA.len
      omega
    have one : ∀ {r q : Rd}, BR m d dl r q → BRs m d dl [r] [q] := fun h => .cons h .nil
    have two : ∀ {r q r' q' : Rd}, BR m d dl r q → BR m d dl r' q' → BRs m d dl [r, r'] [q, q'] := fun h h' => .cons h (.cons h' .nil)
    have num : BR m d dl (fun _ => number T) (fun _ => number U) := fun _ _ hi => number_b hA hi
    have set : BR m d dl (fun _ => setR T) (fun _ => setR U) := fun _ i hi => by
      rcases Nat.lt_or_ge i m with hl | hl
      · exact set_b hA hl
      · obtain rfl : i = m := by omega
        exact sim_not fun a j e => by
          have := setR_on hA.last (by have := hA.len; omega) a j e
          have := hA.len
          omega
    cases nt with
    | cond => exact left_b hA (by simp [goesOn]) (ih _)
    | conj => exact left_b hA (by simp [goesOn]) (ih _)
    | sum => exact left_b hA (by simp [goesOn]) (ih _)
    | scheme => exact left_b hA (by simp [goesOn]) (ih _)
    | term => exact left_b hA (by simp [goesOn]) (ih _)
    | disj => exact left_b hA (by simp [goesOn]) (ih _)
    | meet => exact left_b hA (by simp [goesOn]) (ih _)
    | neg =>
      intro lv i hi
      rcases (Nat.lt_or_ge i m).symm with hl | hl
      · obtain rfl : i = m := by omega
        exact hge _ _
      rw [rd, rd]
      dsimp only
      rw [hA.isE _ hl, hA.isE _ hl, hA.nT hl, hA.nU hl, hA.text i hl]
      split
      · exact notR_b hA (ih _) hl
      split
      · exact (name_b hA hl).bind fun _ _ _ h1 hv => (need_b hA h1).bind fun _ _ _ h2 _ => (within_b (ih _) h2).bind fun _ _ _ h3 hx => ⟨h3, rfl, .mk trivial (.cons hv (.cons hx .nil))⟩
      · refine (ih .sum _ _ hi).bind fun x x' j hj hx => ?_
        rw [← hA.isS (by simp [goesOn]) hj]
        split
        · rename_i hw
          have hl := hA.lt hj hw
          rw [hA.nT hl, hA.nU hl, hA.text j hl]
          exact (ih .sum _ _ hl).bind fun y y' _ hk hy => ⟨hk, rfl, binary_k hx hy⟩
        · exact ⟨hj, rfl, hx⟩
    | unit =>
      intro lv i hi
      rcases (Nat.lt_or_ge i m).symm with hl | hl
      · obtain rfl : i = m := by omega
        exact hge _ _
      rw [rd, rd]
      dsimp only
      rw [hA.kind i hl, hA.isE _ hl, hA.isE _ hl, hA.isE _ hl, hA.isE _ hl, hA.nT hl, hA.nU hl, hA.text i hl]
      split
      · exact number_b hA hi
      split
      · exact arguments_b hA (one (ih _)) (hA.text _ hl) hl
      split
      · exact arguments_b hA (two (ih _) (ih _)) (hA.text _ hl) hl
      split
      · exact (name_b hA hl).bind fun _ _ _ h1 hv => (parens_b hA (ih _) h1).bind fun _ _ _ h2 hx => ⟨h2, rfl, .mk trivial (.cons hv (.cons hx .nil))⟩
      split
      · exact parens_b hA (ih _) hi
      · exact name_b hA hi
    | factor =>
      intro lv i hi
      rw [rd, rd]
      dsimp only
      refine (ih .atom _ _ hi).bind fun x x' j hj hx => ?_
      rw [← hA.isS (by simp [goesOn]) hj]
      split
      · rename_i hw
        have hl := hA.lt hj hw
        rw [hA.nT hl, hA.nU hl]
        refine (number_b hA hl).bind fun n n' _ hk hn => ?_
        rw [hn.num_eq]
        exact (within_b (ih _) hk).bind fun y y' _ hk hy => ⟨hk, rfl, binary_k hx hy⟩
      · exact ⟨hj, rfl, hx⟩
    | atom =>
      intro lv i hi
      rcases (Nat.lt_or_ge i m).symm with hl | hl
      · obtain rfl : i = m := by omega
        exact hge _ _
      rw [rd, rd]
      dsimp only
      rw [hA.isE _ hl, hA.isE _ hl, hA.isE _ hl, hA.isE _ hl, hA.nT hl, hA.nU hl, hA.text i hl]
      split
      · exact arguments_b hA (one num) (hA.text _ hl) hl
      split
      · exact ⟨hl, rfl, .mk trivial .nil⟩
      split
      · exact arguments_b hA (one (ih _)) (hA.text _ hl) hl
      split
      · exact parens_b hA (ih _) hi
      · exact name_b hA hi
    | formula =>
      intro lv i hi
      rw [rd, rd]
      dsimp only
      refine (ih .disj _ _ hi).bind fun x x' j hj hx => ?_
      rw [← hA.isS (by simp [goesOn]) hj]
      split
      · rename_i hw
        have hl := hA.lt hj hw
        rw [hA.nT hl, hA.nU hl]
        exact (within_b (ih _) hl).bind fun y y' _ hk hy => ⟨hk, rfl, binary_k hx hy⟩
      · exact ⟨hj, rfl, hx⟩
    | lit =>
      intro lv i hi
      rcases (Nat.lt_or_ge i m).symm with hl | hl
      · obtain rfl : i = m := by omega
        exact hge _ _
      rw [rd, rd]
      dsimp only
      rw [hA.isE _ hl, hA.isE _ hl, hA.isE _ hl, hA.isE _ hl, hA.isE _ hl, hA.isE _ hl, hA.isE _ hl, hA.isE _ hl, hA.nT hl, hA.nU hl, hA.text i hl]
      split
      · exact notR_b hA (ih _) hl
      split
      · exact ⟨hl, rfl, .mk trivial .nil⟩
      split
      · exact parens_b hA (ih _) hi
      split
      · exact arguments_b hA (two num num) (hA.text _ hl) hl
      split
      · exact arguments_b hA (one num) (hA.text _ hl) hl
      split
      · exact arguments_b hA (two num (ih _)) (hA.text _ hl) hl
      split
      · exact arguments_b hA (two set (ih _)) (hA.text _ hl) hl
      split
      · exact arguments_b hA (one (ih _)) (hA.text _ hl) hl
      · trivial
/-- The whole text's tree is read amid other tokens up to the end of the text's tokens. -/
theorem whole_b {r q : Rd} (hA : SubT T U m d) (h : BR m d dl r q) {x : Syn} {j : Nat} (hx : whole T r = .ok x j) :
    match q dl d with | .ok y l => l = m + d ∧ Twin Any x y | .err _ e => e = 12 ∧ 0 < dl | .none => False := by
  unfold whole at hx
  cases ho : r 0 0 with
  | none => rw [ho] at hx; cases hx
  | err p e => rw [ho] at hx; cases hx
  | ok a k =>
    have hs := h 0 0 (Nat.zero_le _)
    rw [ho] at hx hs
    simp only [Out.bind] at hx
    split at hx
    · rename_i hk
      cases hx
      rw [Nat.zero_add, Nat.zero_add] at hs
      unfold SimO at hs
      cases hq : q dl d with
      | none => rw [hq] at hs; exact hs
      | err p e => rw [hq] at hs; exact hs
      | ok y l =>
        rw [hq] at hs
        obtain ⟨h1, h2, h3⟩ := hs
        refine ⟨?_, h3⟩
        rcases Nat.lt_or_ge j m with hl | hl
        · exact absurd hk (hA.inn j hl)
        · omega
    · cases hx
end
end Go.Proofs.YtekccolabhfopaaGreatDoor
end
