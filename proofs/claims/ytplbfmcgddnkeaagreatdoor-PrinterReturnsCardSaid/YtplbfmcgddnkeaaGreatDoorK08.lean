/- Joined: Wf, Wh. -/
import Derived.Test.YtplbfmcgddnkeaaGreatDoorK07
set_option linter.unusedVariables false
set_option linter.unusedSimpArgs false
section
set_option maxHeartbeats 1000000
namespace Go.Proofs.YtplbfmcgddnkeaaGreatDoor
def mass : Syn → Nat
  | .mk _ t _ _ l => 70 + 2 * t.length + massL l
where
  massL : List Syn → Nat
  | [] => 0
  | x :: l => mass x + massL l
abbrev massL := mass.massL
theorem mass_mk {k : Int} {t : List UInt8} {n p : Int} {l : List Syn} : mass (.mk k t n p l) = 70 + 2 * t.length + massL l := by rw [mass]
theorem massL_nil : massL [] = 0 := by show mass.massL [] = 0; simp only [mass.massL]
theorem massL_cons {x : Syn} {l : List Syn} : massL (x :: l) = mass x + massL l := by show mass.massL (x :: l) = _; simp only [mass.massL]
theorem massL_app {l m : List Syn} : massL (l ++ m) = massL l + massL m := by
  induction l with
  | nil => rw [massL_nil]; simp
  | cons x l ih => rw [List.cons_append, massL_cons, massL_cons, ih]; omega
def WO {α : Type} (P : α → Nat → Prop) (o : Out α) : Prop := match o with | .ok a j => P a j | _ => True
theorem WO.bind {α β : Type} {P : α → Nat → Prop} {Q : β → Nat → Prop} {o : Out α} {f : α → Nat → Out β} (h : WO P o) (hf : ∀ a j, P a j → WO Q (f a j)) : WO Q (o.bind f) := by
  cases o with
  | none => trivial
  | err p e => trivial
  | ok a j => exact hf a j h
theorem WO.to {α : Type} {P Q : α → Nat → Prop} {o : Out α} (h : WO P o) (hf : ∀ a j, P a j → Q a j) : WO Q o := by
  cases o with
  | none => trivial
  | err p e => trivial
  | ok a j => exact hf a j h
structure TT (C : Nat) (T : List Tok) : Prop where
  nxt : ∀ i, (tk T i).kind ≠ 3 → nx T i = i + 1
  len : ∀ i, 100 + 2 * (tk T i).text.length ≤ C
  word : ∀ i, (tk T i).kind = 0 → formedB 0 (tk T i).text = true
  num : ∀ i, (tk T i).kind = 1 → dv 0 (tk T i).text ≤ 1048576
abbrev QW (C : Nat) (ok : Syn → Bool) (i : Nat) (x : Syn) (j : Nat) : Prop := ok x = true ∧ mass x + C * i ≤ C * j
section
variable {T : List Tok} {C lv i : Nat}
theorem isW_w {ws : List (List UInt8)} (h : isW T ws i = true) : (tk T i).kind ≠ 3 ∧ (tk T i).text ∈ ws := by
  unfold isW at h
  rw [Bool.and_eq_true] at h
  obtain ⟨h, h'⟩ := h
  refine ⟨fun e => ?_, by simpa using h'⟩
  rw [e] at h
  revert h; decide
theorem TT.step (hA : TT C T) (h : (tk T i).kind ≠ 3) : nx T i = i + 1 := hA.nxt i h
theorem need_w {w : List UInt8} (hA : TT C T) : WO (fun _ j => j = i + 1) (need T w i) := by
  unfold need
  split
  · rename_i h; exact hA.step (isW_w h).1
  · trivial
theorem mulS {C i : Nat} : C * (i + 1) = C * i + C := Nat.mul_succ ..
theorem mulSS {C i : Nat} : C * (i + 2) = C * i + C + C := by rw [show i + 2 = i + 1 + 1 from rfl, mulS, mulS]
theorem name_w (hA : TT C T) : WO (QW C isNm i) (name reservedB T i) := by
  unfold name
  split
  · trivial
  · rename_i h
    have h0 : (tk T i).kind = 0 := by by_cases e : (tk T i).kind = 0; exact e; exact absurd (Or.inl e) h
    have h1 : reservedB (tk T i).text = false := by cases e : reservedB (tk T i).text; rfl; exact absurd (Or.inr e) h
    refine ⟨?_, ?_⟩
    · simp [isNm, nameB, Syn.kind, Syn.text, Syn.num, Syn.kids, hA.word i h0, h1]
    · rw [hA.nxt i (by rw [h0]; decide), mass_mk, massL_nil, mulS]; have := hA.len i; omega
theorem number_w (hA : TT C T) : WO (QW C isNum i) (number T i) := by
  unfold number
  split
  · trivial
  · rename_i h
    have h1 : (tk T i).kind = 1 := by by_cases e : (tk T i).kind = 1; exact e; exact absurd e h
    have h2 := hA.num i h1
    refine ⟨?_, ?_⟩
    · have : natB (dv 0 (tk T i).text : Nat) = true := by unfold natB; simp; omega
      simp [isNum, Syn.kind, Syn.text, Syn.num, Syn.kids, this]
    · rw [hA.nxt i (by rw [h1]; decide), mass_mk, massL_nil, mulS]; have := hA.len i; simp only [List.length_nil]; omega
def WR (C : Nat) (ok : Syn → Bool) (r : Rd) : Prop := ∀ lv i, WO (QW C ok i) (r lv i)
theorem within_w {ok : Syn → Bool} {r : Rd} (h : WR C ok r) : WO (QW C ok i) (within T r lv i) := by
  unfold within
  split
  · trivial
  · exact h _ _
theorem parens_w {ok : Syn → Bool} {r : Rd} (hA : TT C T) (h : WR C ok r) : WO (fun x j => ok x = true ∧ mass x + C * (i + 2) ≤ C * j) (parens T r lv i) :=
  (need_w hA).bind fun _ j hj => (within_w h).bind fun _ k hx => (need_w hA).bind fun _ l hl => ⟨hx.1, by subst hj; subst hl; have := hx.2; rw [mulS] at this; have e1 := mulSS (C := C) (i := i); have e2 := mulS (C := C) (i := k); omega⟩
inductive AllB : List Syn → List (Syn → Bool) → Prop
  | nil : AllB [] []
  | cons {x : Syn} {xs : List Syn} {b : Syn → Bool} {bs : List (Syn → Bool)} (h : b x = true) (ht : AllB xs bs) : AllB (x :: xs) (b :: bs)
inductive AllR (C : Nat) : List Rd → List (Syn → Bool) → Prop
  | nil : AllR C [] []
  | cons {r : Rd} {rs : List Rd} {b : Syn → Bool} {bs : List (Syn → Bool)} (h : WR C b r) (ht : AllR C rs bs) : AllR C (r :: rs) (b :: bs)
theorem argsMore_w {rs : List Rd} {bs : List (Syn → Bool)} (hA : TT C T) (hr : AllR C rs bs) : ∀ i, WO (fun xs j => AllB xs bs ∧ massL xs + C * i ≤ C * j) (argsGo.argsMore T rs lv i) := by
  induction hr with
  | nil => intro i; exact ⟨.nil, by rw [massL_nil]; omega⟩
  | cons h ht ih =>
    intro i
    exact (need_w hA).bind fun _ j hj => (h _ _).bind fun x k hx => (ih _).bind fun xs l hxs => ⟨.cons hx.1 hxs.1, by
      subst hj; have h1 := hx.2; have h2 := hxs.2; rw [mulS] at h1; rw [massL_cons]; omega⟩
theorem argsGo_w {rs : List Rd} {bs : List (Syn → Bool)} (hA : TT C T) (hr : AllR C rs bs) : WO (fun xs j => AllB xs bs ∧ massL xs + C * i ≤ C * j) (argsGo T rs lv i) := by
  cases hr with
  | nil => exact ⟨.nil, by rw [massL_nil]; omega⟩
  | cons h ht => exact (h _ _).bind fun x k hx => (argsMore_w hA ht _).bind fun xs l hxs => ⟨.cons hx.1 hxs.1, by have h1 := hx.2; have h2 := hxs.2; rw [massL_cons]; omega⟩
theorem arguments_w {rs : List Rd} {bs : List (Syn → Bool)} {ok : Syn → Bool} {w : Tok} (hA : TT C T) (hr : AllR C rs bs) (hw : 100 + 2 * w.text.length ≤ C) (hok : ∀ xs, AllB xs bs → ok (.mk 10 w.text 0 w.pos xs) = true) :
    WO (QW C ok i) (arguments T w rs lv i) := (need_w hA).bind fun _ j hj => by
  split
  · trivial
  · exact (argsGo_w hA hr).bind fun xs k hxs => (need_w hA).bind fun _ l hl => ⟨hok _ hxs.1, by subst hj; subst hl; have h1 := hxs.2; rw [mulS] at h1; rw [mass_mk, mulS]; omega⟩
theorem two_w {op : List UInt8} {num : Int} {x y : Syn} {j k l : Nat} (ho : 100 + 2 * op.length ≤ C) (hx : mass x + C * i ≤ C * j) (hy : mass y + C * k ≤ C * l) (hk : j + 1 ≤ k) : mass (binary op num x y) + C * i ≤ C * l := by
  have : C * (j + 1) ≤ C * k := Nat.mul_le_mul_left _ hk
  rw [mulS] at this
  rw [binary, mass_mk, massL_cons, massL_cons, massL_nil]
  omega
theorem leftLoop_w {r : Rd} {ok : Syn → Bool} {ops : List (List UInt8)} (hA : TT C T) (h : WR C ok r) (ho : ∀ op ∈ ops, ∀ x y, ok x = true → ok y = true → ok (binary op 0 x y) = true) (g : Nat) : ∀ x k, QW C ok i x k → WO (QW C ok i) (leftLoop T r ops lv g x k) := by
  induction g with
  | zero => intro x k _; trivial
  | succ g ih =>
    intro x k hx
    unfold leftLoop
    split
    · rename_i hw
      have hw := isW_w hw
      rw [hA.nxt k hw.1]
      exact (h _ _).bind fun y l hy => ih _ _ ⟨ho _ hw.2 _ _ hx.1 hy.1, two_w (hA.len k) hx.2 hy.2 (Nat.le_refl _)⟩
    · exact hx
theorem left_w {r : Rd} {ok : Syn → Bool} {ops : List (List UInt8)} (hA : TT C T) (h : WR C ok r) (ho : ∀ op ∈ ops, ∀ x y, ok x = true → ok y = true → ok (binary op 0 x y) = true) : WR C ok (left T r ops) := fun _ _ => (h _ _).bind fun _ _ hx => leftLoop_w hA h ho _ _ _ hx
theorem setLoop_w (hA : TT C T) (g : Nat) : ∀ xs k, (xs.all isNum = true ∧ massL xs + C * i ≤ C * k) → WO (fun xs j => xs.all isNum = true ∧ massL xs + C * i ≤ C * j) (setLoop T g xs k) := by
  induction g with
  | zero => intro x k _; trivial
  | succ g ih =>
    intro xs k hx
    unfold setLoop
    split
    · rename_i hw
      rw [hA.nxt k (isW_w hw).1]
      exact (number_w hA).bind fun y l hy => ih _ _ ⟨by rw [List.all_append, hx.1]; simp [hy.1], by
        have h1 := hx.2; have h2 := hy.2; rw [mulS] at h2; rw [massL_app, massL_cons, massL_nil]; omega⟩
    · exact hx
theorem set_w (hA : TT C T) : WO (QW C isSet i) (setR T i) := by
  unfold setR
  split
  · rename_i hw
    have hw := isW_w hw
    have hk : (tk T i).text = kEvery := by simpa using hw.2
    refine ⟨?_, ?_⟩
    · simp [isSet, Syn.kind, Syn.text, Syn.num, Syn.kids, hk]
    · rw [hA.nxt i hw.1, mass_mk, massL_nil, mulS]; have := hA.len i; omega
  · refine (need_w hA).bind fun _ j hj => ?_
    subst hj
    have hc := hA.len i
    split
    · rename_i hw
      rw [hA.nxt _ (isW_w hw).1]
      refine ⟨?_, ?_⟩
      · simp [isSet, Syn.kind, Syn.text, Syn.num, Syn.kids]
      · rw [mass_mk, massL_nil, mulS, mulS]; simp only [List.length_nil]; omega
    · refine (number_w hA).bind fun x j hx => (setLoop_w (i := i + 1) hA _ [x] _ ⟨by simp [hx.1], by rw [massL_cons, massL_nil]; have := hx.2; omega⟩).bind fun xs k hxs => (need_w hA).bind fun _ l hl => ⟨?_, ?_⟩
      · simp [isSet, Syn.kind, Syn.text, Syn.num, Syn.kids]
        simpa using hxs.1
      · subst hl
        have h1 := hxs.2
        rw [mulS] at h1
        rw [mass_mk, mulS]; simp only [List.length_nil]; omega
theorem notR_w {r : Rd} {ok : Syn → Bool} (hA : TT C T) (h : WR C ok r) (hi : (tk T i).kind ≠ 3) (hok : ∀ x p, ok x = true → ok (.mk 12 [] 0 p [x]) = true) : WO (QW C ok i) (notR T r lv i) := by
  unfold notR
  rw [hA.nxt i hi]
  refine (within_w h).bind fun x j hx => ⟨hok _ _ hx.1, ?_⟩
  have h1 := hx.2
  have hc := hA.len i
  rw [mulS] at h1
  rw [mass_mk, massL_cons, massL_nil]; simp only [List.length_nil]; omega
def okN : NT → Syn → Bool
  | .cond | .conj | .neg | .sum | .unit => okc
  | .scheme | .term | .factor | .atom => oks
  | .formula | .disj | .meet | .lit => okf
theorem okc_numW {x : Syn} (h : isNum x = true) : okc x = true := by
  rcases x with ⟨k, t, n, p, _ | ⟨a, l⟩⟩
  · simp [okc, h]
  · simp [isNum, Syn.kids] at h
theorem okc_nm {x : Syn} (h : isNm x = true) : okc x = true := by
  rcases x with ⟨k, t, n, p, _ | ⟨a, l⟩⟩
  · simp [okc, h]
  · simp [isNm, Syn.kids] at h
theorem oks_nm {x : Syn} (h : isNm x = true) : oks x = true := by
  rcases x with ⟨k, t, n, p, _ | ⟨a, l⟩⟩
  · simp [oks, h]
  · simp [isNm, Syn.kids] at h
theorem okc_op {op : List UInt8} (h : (opP 0 op).isSome = true) (x y : Syn) (hx : okc x = true) (hy : okc y = true) : okc (binary op 0 x y) = true := by simp [binary, okc, h, hx, hy]
theorem oks_op {op : List UInt8} (h : op = kOr ∨ op = kAnd) (x y : Syn) (hx : oks x = true) (hy : oks y = true) : oks (binary op 0 x y) = true := by rcases h with rfl | rfl <;> simp only [binary, oks, hx, hy] <;> decide
theorem okf_op {op : List UInt8} (h : (opP 2 op).isSome = true) (x y : Syn) (hx : okf x = true) (hy : okf y = true) : okf (binary op 0 x y) = true := by simp [binary, okf, h, hx, hy]
theorem allB1 {xs : List Syn} {b : Syn → Bool} (h : AllB xs [b]) : ∃ x, xs = [x] ∧ b x = true := by
  cases h with
  | cons h ht => cases ht; exact ⟨_, rfl, h⟩
theorem allB2 {xs : List Syn} {b c : Syn → Bool} (h : AllB xs [b, c]) : ∃ x y, xs = [x, y] ∧ b x = true ∧ c y = true := by
  cases h with
  | cons h ht => cases ht with | cons h' ht => cases ht; exact ⟨_, _, rfl, h, h'⟩
theorem wr1 {r : Rd} {b : Syn → Bool} (h : WR C b r) : AllR C [r] [b] := .cons h .nil
theorem wr2 {r q : Rd} {b c : Syn → Bool} (h : WR C b r) (h' : WR C c q) : AllR C [r, q] [b, c] := .cons h (.cons h' .nil)
theorem rd_w (hA : TT C T) (f : Nat) : ∀ nt, WR C (okN nt) (rd reservedB T f nt) := by
  have num : WR C isNum (fun _ => number T) := fun _ _ => number_w hA
  have set : WR C isSet (fun _ => setR T) := fun _ _ => set_w hA
  induction f with
  | zero => intro nt lv i; trivial
  | succ f ih =>
    intro nt
    cases nt with
    | cond => exact left_w hA (ih .conj) (fun op ho => okc_op (by rw [List.mem_singleton.1 ho]; decide))
    | conj => exact left_w hA (ih .neg) (fun op ho => okc_op (by rw [List.mem_singleton.1 ho]; decide))
    | sum => exact left_w hA (ih .unit) (fun op ho => okc_op (by
        rcases List.mem_cons.1 ho with rfl | ho
        · decide
        · rw [List.mem_singleton.1 ho]; decide))
    | scheme => exact left_w hA (ih .term) (fun op ho => oks_op (Or.inl (List.mem_singleton.1 ho)))
    | term => exact left_w hA (ih .factor) (fun op ho => oks_op (Or.inr (List.mem_singleton.1 ho)))
    | disj => exact left_w hA (ih .meet) (fun op ho => okf_op (by rw [List.mem_singleton.1 ho]; decide))
    | meet => exact left_w hA (ih .lit) (fun op ho => okf_op (by rw [List.mem_singleton.1 ho]; decide))
    | neg =>
      intro lv i
      rw [rd]
      dsimp only [okN]
      have hc := hA.len i
      split
      · rename_i hw
        exact notR_w hA (ih .neg) (isW_w hw).1 (fun x p hx => by simp [okc]; exact hx)
      split
      · rename_i hw
        have hw := isW_w hw
        rw [hA.nxt i hw.1]
        refine (name_w hA).bind fun v j hv => (need_w hA).bind fun _ k hk => (within_w (ih .cond)).bind fun x l hx => ⟨?_, ?_⟩
        · have hx := hx.1
          have h2 : (tk T i).text = kAll ∨ (tk T i).text = kSome := by simpa using hw.2
          dsimp only [okN] at hx
          rcases h2 with h2 | h2 <;> simp [okc, hv.1, hx, h2]
        · subst hk
          have h1 := hv.2; have h2 := hx.2
          rw [mulS] at h1 h2
          rw [mass_mk, massL_cons, massL_cons, massL_nil]
          omega
      · refine (ih .sum _ _).bind fun x j hx => ?_
        split
        · rename_i hw
          have hw := isW_w hw
          rw [hA.nxt j hw.1]
          refine (ih .sum _ _).bind fun y l hy => ⟨?_, two_w (hA.len j) hx.2 hy.2 (Nat.le_refl _)⟩
          refine okc_op ?_ _ _ hx.1 hy.1
          have h2 := hw.2
          simp only [List.mem_cons, List.not_mem_nil, or_false] at h2
          rcases h2 with h2 | h2 | h2 | h2 <;> rw [h2] <;> decide
        · exact hx
    | unit =>
      intro lv i
      rw [rd]
      dsimp only [okN]
      have hc := hA.len i
      split
      · exact (number_w hA).to fun x j hx => ⟨okc_numW hx.1, hx.2⟩
      split
      · rename_i hw
        have hw := isW_w hw
        rw [hA.nxt i hw.1]
        refine (arguments_w (i := i + 1) hA (wr1 (ih .sum)) (ok := okc) hc fun xs h => ?_).to fun x j hx => ⟨hx.1, by have := hx.2; rw [mulS] at this; omega⟩
        obtain ⟨x, rfl, hx⟩ := allB1 h
        have h2 : (tk T i).text = kIn ∨ (tk T i).text = kOut := by simpa using hw.2
        dsimp only [okN] at hx
        rcases h2 with h2 | h2 <;> simp [okc, hx, h2]
      split
      · rename_i hw
        have hw := isW_w hw
        rw [hA.nxt i hw.1]
        refine (arguments_w (i := i + 1) hA (wr2 (ih .sum) (ih .sum)) (ok := okc) hc fun xs h => ?_).to fun x j hx => ⟨hx.1, by have := hx.2; rw [mulS] at this; omega⟩
        obtain ⟨x, y, rfl, hx, hy⟩ := allB2 h
        have h2 : (tk T i).text = kHears := by simpa using hw.2
        dsimp only [okN] at hx hy
        simp [okc, hx, hy, h2]
      split
      · rename_i hw
        have hw := isW_w hw
        rw [hA.nxt i hw.1]
        refine (name_w hA).bind fun v j hv => (parens_w hA (ih .cond)).bind fun x l hx => ⟨?_, ?_⟩
        · have hx := hx.1
          have h2 : (tk T i).text = kCount := by simpa using hw.2
          dsimp only [okN] at hx
          simp [okc, hv.1, hx, h2]
        · have h1 := hv.2; have h2 := hx.2
          rw [mulS] at h1
          rw [mulSS] at h2
          rw [mass_mk, massL_cons, massL_cons, massL_nil]
          omega
      split
      · exact (parens_w hA (ih .cond)).to fun x j hx => ⟨hx.1, by have := hx.2; rw [mulSS] at this; omega⟩
      · exact (name_w hA).to fun x j hx => ⟨okc_nm hx.1, hx.2⟩
    | factor =>
      intro lv i
      rw [rd]
      dsimp only
      refine (ih .atom _ _).bind fun x j hx => ?_
      split
      · rename_i hw
        have hw := isW_w hw
        rw [hA.nxt j hw.1]
        refine (number_w hA).bind fun n k hn => (within_w (ih .factor)).bind fun y l hy => ⟨?_, ?_⟩
        · have hx := hx.1; have hy := hy.1; have hn := hn.1
          have hn : natB n.num = true := by unfold isNum at hn; simp only [Bool.and_eq_true] at hn; exact hn.1.2
          dsimp only [okN] at hx hy
          show oks (.mk 11 kThen n.num x.pos [x, y]) = true
          simp only [oks, hx, hy, if_true, hn]
          decide
        · have h1 := hn.2
          have h2 : j + 1 ≤ k := by
            rcases Nat.lt_or_ge k (j + 1) with h | h
            · have := Nat.mul_le_mul_left C (show k ≤ j + 1 by omega)
              have : 0 < mass n := by rcases n with ⟨a, b, c, d, e⟩; rw [mass_mk]; omega
              omega
            · exact h
          have h3 := hA.len j
          have h4 : (tk T j).text = kThen := by simpa using hw.2
          rw [h4] at h3
          exact two_w h3 hx.2 hy.2 h2
      · exact hx
    | atom =>
      intro lv i
      rw [rd]
      dsimp only [okN]
      have hc := hA.len i
      split
      · rename_i hw
        have hw := isW_w hw
        rw [hA.nxt i hw.1]
        refine (arguments_w (i := i + 1) hA (wr1 num) (ok := oks) hc fun xs h => ?_).to fun x j hx => ⟨hx.1, by have := hx.2; rw [mulS] at this; omega⟩
        obtain ⟨x, rfl, hx⟩ := allB1 h
        simp only [oks, hx, decide_true, Bool.true_and, Bool.and_true]
        rw [Bool.or_eq_true]
        exact Or.inr (List.contains_iff_mem.2 hw.2)
      split
      · rename_i hw
        have hw := isW_w hw
        have h2 : (tk T i).text = kSnap := by simpa using hw.2
        refine ⟨by simp [oks, h2], ?_⟩
        rw [hA.nxt i hw.1, mass_mk, massL_nil, mulS]; omega
      split
      · rename_i hw
        have hw := isW_w hw
        rw [hA.nxt i hw.1]
        refine (arguments_w (i := i + 1) hA (wr1 (ih .cond)) (ok := oks) hc fun xs h => ?_).to fun x j hx => ⟨hx.1, by have := hx.2; rw [mulS] at this; omega⟩
        obtain ⟨x, rfl, hx⟩ := allB1 h
        have h2 : (tk T i).text = kGraphs := by simpa using hw.2
        dsimp only [okN] at hx
        simp [oks, hx, h2]
      split
      · exact (parens_w hA (ih .scheme)).to fun x j hx => ⟨hx.1, by have := hx.2; rw [mulSS] at this; omega⟩
      · exact (name_w hA).to fun x j hx => ⟨oks_nm hx.1, hx.2⟩
    | formula =>
      intro lv i
      rw [rd]
      dsimp only
      refine (ih .disj _ _).bind fun x j hx => ?_
      split
      · rename_i hw
        have hw := isW_w hw
        rw [hA.nxt j hw.1]
        refine (within_w (ih .formula)).bind fun y l hy => ⟨okf_op (by decide) _ _ hx.1 hy.1, ?_⟩
        have h3 := hA.len j
        have h4 : (tk T j).text = kUntil := by simpa using hw.2
        rw [h4] at h3
        exact two_w h3 hx.2 hy.2 (Nat.le_refl _)
      · exact hx
    | lit =>
      intro lv i
      rw [rd]
      dsimp only [okN]
      have hc := hA.len i
      split
      · rename_i hw
        exact notR_w hA (ih .lit) (isW_w hw).1 (fun x p hx => by simp [okf]; exact hx)
      split
      · rename_i hw
        have hw := isW_w hw
        have h2 : (tk T i).text = kTrue := by simpa using hw.2
        refine ⟨by simp [okf, h2], ?_⟩
        rw [hA.nxt i hw.1, mass_mk, massL_nil, mulS]; omega
      split
      · exact (parens_w hA (ih .formula)).to fun x j hx => ⟨hx.1, by have := hx.2; rw [mulSS] at this; omega⟩
      split
      · rename_i hw
        have hw := isW_w hw
        rw [hA.nxt i hw.1]
        refine (arguments_w (i := i + 1) hA (wr2 num num) (ok := okf) hc fun xs h => ?_).to fun x j hx => ⟨hx.1, by have := hx.2; rw [mulS] at this; omega⟩
        obtain ⟨x, y, rfl, hx, hy⟩ := allB2 h
        have h2 : ftwo.contains (tk T i).text = true := List.contains_iff_mem.2 hw.2
        simp [okf, hx, hy, -List.contains_eq_mem, h2]
      split
      · rename_i hw
        have hw := isW_w hw
        rw [hA.nxt i hw.1]
        refine (arguments_w (i := i + 1) hA (wr1 num) (ok := okf) hc fun xs h => ?_).to fun x j hx => ⟨hx.1, by have := hx.2; rw [mulS] at this; omega⟩
        obtain ⟨x, rfl, hx⟩ := allB1 h
        have h2 : fone.contains (tk T i).text = true := List.contains_iff_mem.2 hw.2
        simp [okf, hx, -List.contains_eq_mem, h2]
      split
      · rename_i hw
        have hw := isW_w hw
        rw [hA.nxt i hw.1]
        refine (arguments_w (i := i + 1) hA (wr2 num (ih .formula)) (ok := okf) hc fun xs h => ?_).to fun x j hx => ⟨hx.1, by have := hx.2; rw [mulS] at this; omega⟩
        obtain ⟨x, y, rfl, hx, hy⟩ := allB2 h
        have h2 : (tk T i).text = [75] := by simpa using hw.2
        dsimp only [okN] at hy
        simp [okf, hx, hy, -List.contains_eq_mem, h2]
      split
      · rename_i hw
        have hw := isW_w hw
        rw [hA.nxt i hw.1]
        refine (arguments_w (i := i + 1) hA (wr2 set (ih .formula)) (ok := okf) hc fun xs h => ?_).to fun x j hx => ⟨hx.1, by have := hx.2; rw [mulS] at this; omega⟩
        obtain ⟨x, y, rfl, hx, hy⟩ := allB2 h
        have h2 : fset.contains (tk T i).text = true := List.contains_iff_mem.2 hw.2
        dsimp only [okN] at hy
        simp [okf, hx, hy, -List.contains_eq_mem, h2]
      split
      · rename_i hw
        have hw := isW_w hw
        rw [hA.nxt i hw.1]
        refine (arguments_w (i := i + 1) hA (wr1 (ih .formula)) (ok := okf) hc fun xs h => ?_).to fun x j hx => ⟨hx.1, by have := hx.2; rw [mulS] at this; omega⟩
        obtain ⟨x, rfl, hx⟩ := allB1 h
        have h2 : ftim.contains (tk T i).text = true := List.contains_iff_mem.2 hw.2
        dsimp only [okN] at hx
        simp [okf, hx, -List.contains_eq_mem, h2]
      · trivial
end
end Go.Proofs.YtplbfmcgddnkeaaGreatDoor
end
section
set_option maxHeartbeats 1000000
set_option maxRecDepth 100000
namespace Go.Proofs.YtplbfmcgddnkeaaGreatDoor
theorem decGo_len : ∀ (f n : Nat) (l : List UInt8), n < 10 ^ f → (decGo f n l).length ≤ f + l.length := by
  intro f
  induction f with
  | zero => intro n l h; rw [decGo]; omega
  | succ f ih =>
    intro n l h
    rw [decGo]
    split
    · simp; omega
    · have := ih (n / 10) (UInt8.ofNat (48 + n % 10) :: l) (by rw [Nat.pow_succ] at h; omega)
      rw [List.length_cons] at this
      omega
theorem dec_len {n : Nat} (h : n ≤ 1048576) : (dec n).length ≤ 7 := by
  unfold dec
  by_cases h0 : n < 7
  · have := decGo_len (n + 1) n [] (Nat.lt_of_lt_of_le (show n < 10 ^ 1 by omega) (Nat.pow_le_pow_right (by omega) (by omega)))
    simp only [List.length_nil] at this
    omega
  · have e : ∀ (g f m : Nat) (l : List UInt8), m < 10 ^ g → 0 < g → (decGo (g + f) m l) = decGo g m l := by
      intro g
      induction g with
      | zero => intro f m l h h0; omega
      | succ g ih =>
        intro f m l h h0
        rw [show g + 1 + f = g + f + 1 by omega, decGo, decGo]
        split
        · rfl
        · rcases Nat.eq_zero_or_pos g with rfl | h'
          · omega
          · exact ih _ _ _ (by rw [Nat.pow_succ] at h; omega) h'
    have := e 7 (n - 6) n [] (by omega) (by omega)
    rw [show 7 + (n - 6) = n + 1 by omega] at this
    rw [this]
    have := decGo_len 7 n [] (by omega)
    simpa using this
theorem nat_le {n : Int} (h : natB n = true) : n.toNat ≤ 1048576 := by
  unfold natB at h
  simp at h
  omega
theorem par_len (b : Bool) (s : List UInt8) : (par b s).length ≤ s.length + 2 := by
  unfold par
  split
  · simp
  · omega
theorem num_dec {t : Syn} (h : isNum t = true) : (dec t.num.toNat).length ≤ 7 := by
  unfold isNum at h
  simp only [Bool.and_eq_true] at h
  exact dec_len (nat_le h.1.2)
theorem wrc_len : ∀ (m : Nat) (t : Syn), SizeOf.sizeOf t < m → okc t = true → (wrc t).length ≤ mass t := by
  intro m
  induction m with
  | zero => intro t h; omega
  | succ m ih =>
    intro t hm ho
    rcases t with ⟨kd, tx, n, p, _ | ⟨a, _ | ⟨b, _ | ⟨c, l⟩⟩⟩⟩
    · rw [mass_mk]
      rw [wrc]
      split
      · rename_i hk
        rw [okc] at ho
        rcases Bool.or_eq_true _ _ ▸ ho with h | h
        · have := num_dec h
          simp only [Syn.num] at this
          omega
        · simp [isNm, Syn.kind, hk] at h
      · omega
    · simp only [Syn.mk.sizeOf_spec, List.cons.sizeOf_spec, List.nil.sizeOf_spec] at hm
      have oa : okc a = true := by simp [okc] at ho; rcases ho with h | h <;> exact h.2
      have h1 := ih a (by omega) oa
      rw [mass_mk, massL_cons, massL_nil, wrc]
      split
      · have := par_len (decide (lvl 0 a < 2)) (wrc a)
        simp only [List.length_append, List.length_cons]
        have : kNot.length = 3 := rfl
        omega
      · have := par_len (decide (lvl 0 a < 4)) (wrc a)
        simp only [List.length_append, List.length_cons, List.length_nil]
        omega
    · simp only [Syn.mk.sizeOf_spec, List.cons.sizeOf_spec, List.nil.sizeOf_spec] at hm
      have ob : okc b = true := by
        simp only [okc, Bool.or_eq_true, Bool.and_eq_true] at ho
        rcases ho with (h | h) | h <;> exact h.2
      have h2 := ih b (by omega) ob
      rw [mass_mk, massL_cons, massL_cons, massL_nil, wrc]
      have ha : a.text.length ≤ mass a := by rcases a with ⟨k, t, n, p, l⟩; rw [mass_mk]; simp only [Syn.text]; omega
      have pb := fun q => par_len q (wrc b)
      split
      · split
        · have := pb true
          simp only [List.length_append, List.length_cons]
          omega
        · simp only [List.length_append, List.length_cons]
          omega
      · have oa : okc a = true := by
          simp only [okc, Bool.or_eq_true, Bool.and_eq_true] at ho
          rcases ho with (h | h) | h
          · rename_i hk; exact absurd (of_decide_eq_true h.1.1.1.1) hk
          · exact h.1.2
          · exact h.1.2
        have h1 := ih a (by omega) oa
        split
        · have := par_len (decide (lvl 0 a < 4)) (wrc a)
          have := pb (decide (lvl 0 b < 4))
          simp only [List.length_append, List.length_cons, List.length_nil]
          omega
        · have := par_len (looseB tx a || decide (lvl 0 a < lft 0 tx)) (wrc a)
          have := pb (decide (lvl 0 b < rgt 0 tx))
          simp only [List.length_append, List.length_cons]
          omega
    · simp [okc] at ho
theorem wrs_len : ∀ (m : Nat) (t : Syn), SizeOf.sizeOf t < m → oks t = true → (wrs t).length ≤ mass t := by
  intro m
  induction m with
  | zero => intro t h; omega
  | succ m ih =>
    intro t hm ho
    rcases t with ⟨kd, tx, n, p, _ | ⟨a, _ | ⟨b, _ | ⟨c, l⟩⟩⟩⟩
    · rw [mass_mk, wrs]; omega
    · have oa : okc a = true := by
        simp only [oks, Bool.or_eq_true, Bool.and_eq_true] at ho
        rcases ho.2 with h | h
        · exact h.2
        · exact okc_numW h.2
      have h1 := wrc_len _ a (Nat.lt_succ_self _) oa
      rw [mass_mk, massL_cons, massL_nil, wrs]
      simp only [List.length_append, List.length_cons, List.length_nil]
      omega
    · simp only [Syn.mk.sizeOf_spec, List.cons.sizeOf_spec, List.nil.sizeOf_spec] at hm
      simp only [oks, Bool.and_eq_true] at ho
      have h1 := ih a (by omega) ho.1.2
      have h2 := ih b (by omega) ho.2
      have := par_len (decide (lvl 1 a < lft 1 tx)) (wrs a)
      have := par_len (decide (lvl 1 b < rgt 1 tx)) (wrs b)
      have hn : (if tx = kThen then dec n.toNat ++ [32] else []).length ≤ 8 := by
        split
        · rename_i ht
          rw [if_pos ht] at ho
          have := dec_len (nat_le ho.1.1.2)
          simp; omega
        · simp
      rw [mass_mk, massL_cons, massL_cons, massL_nil, wrs]
      simp only [List.length_append, List.length_cons] at hn ⊢
      omega
    · simp [oks] at ho
theorem commas_len (l : List Syn) (h : l.all isNum = true) : (commas (l.map fun x => dec x.num.toNat)).length ≤ massL l := by
  induction l with
  | nil => simp [commas, massL_nil]
  | cons x l ih =>
    simp only [List.all_cons, Bool.and_eq_true] at h
    have h1 := num_dec h.1
    have h2 := ih h.2
    have h3 : 70 ≤ mass x := by rcases x with ⟨a, b, c, d, e⟩; rw [mass_mk]; omega
    rw [massL_cons]
    cases l with
    | nil => simp [commas]; omega
    | cons y l =>
      simp only [List.map_cons, commas, List.length_append, List.length_cons] at h2 ⊢
      omega
theorem warg_len {t : Syn} (h : isNum t = true ∨ isSet t = true) : (warg t).length ≤ mass t := by
  have h3 : 70 + 2 * t.text.length + massL t.kids = mass t := by rcases t with ⟨a, b, c, d, e⟩; rw [mass_mk]; rfl
  rcases h with h | h
  · have h1 := num_dec h
    unfold warg
    unfold isNum at h
    simp only [Bool.and_eq_true, decide_eq_true_eq] at h
    rw [if_pos h.1.1.1]
    omega
  · unfold warg
    unfold isSet at h
    simp only [Bool.and_eq_true, decide_eq_true_eq] at h
    rw [if_neg (by rw [h.1.1]; decide)]
    unfold wset
    split
    · rename_i ht
      rw [ht] at h
      simp only [Bool.or_eq_true, Bool.and_eq_true] at h
      have h4 : t.kids.all isNum = true := by
        rcases h.2 with h | h
        · exact absurd h.1 (by decide)
        · exact h.2
      have := commas_len _ h4
      simp only [List.length_append, List.length_cons, List.length_nil]
      omega
    · omega
theorem wrf_len : ∀ (m : Nat) (t : Syn), SizeOf.sizeOf t < m → okf t = true → (wrf t).length ≤ mass t := by
  intro m
  induction m with
  | zero => intro t h; omega
  | succ m ih =>
    intro t hm ho
    rcases t with ⟨kd, tx, n, p, _ | ⟨a, _ | ⟨b, _ | ⟨c, l⟩⟩⟩⟩
    · rw [mass_mk, wrf]; omega
    · simp only [Syn.mk.sizeOf_spec, List.cons.sizeOf_spec, List.nil.sizeOf_spec] at hm
      rw [mass_mk, massL_cons, massL_nil, wrf]
      simp only [okf, Bool.or_eq_true, Bool.and_eq_true, decide_eq_true_eq] at ho
      split
      · rename_i hk
        have oa : okf a = true := by
          rcases ho with h | h
          · exact h.2
          · rw [hk] at h; exact absurd h.1.1 (by decide)
        have := ih a (by omega) oa
        have := par_len (decide (lvl 2 a < 3)) (wrf a)
        simp only [List.length_append, List.length_cons]
        have : kNot.length = 3 := rfl
        omega
      · rename_i hk
        have ho : fone.contains tx = true ∧ isNum a = true ∨ ftim.contains tx = true ∧ okf a = true := by
          rcases ho with h | h
          · exact absurd h.1.1.1 hk
          · exact h.2
        split
        · rename_i hf
          have oa : isNum a = true := by
            rcases ho with h | h
            · exact h.2
            · exfalso
              have h1 := List.contains_iff_mem.1 hf
              have h2 := h.1
              simp only [List.mem_cons, List.not_mem_nil, or_false] at h1
              rcases h1 with rfl | rfl | rfl <;> exact absurd h2 (by decide)
          have := warg_len (Or.inl oa)
          simp only [List.length_append, List.length_cons, List.length_nil]
          omega
        · rename_i hf
          have oa : okf a = true := by
            rcases ho with h | h
            · exact absurd h.1 hf
            · exact h.2
          have := ih a (by omega) oa
          simp only [List.length_append, List.length_cons, List.length_nil]
          omega
    · simp only [Syn.mk.sizeOf_spec, List.cons.sizeOf_spec, List.nil.sizeOf_spec] at hm
      rw [mass_mk, massL_cons, massL_cons, massL_nil, wrf]
      simp only [okf, Bool.or_eq_true, Bool.and_eq_true, decide_eq_true_eq] at ho
      split
      · rename_i hk
        have ho : (ftwo.contains tx = true ∧ isNum a = true) ∧ isNum b = true ∨ (ftwo.contains tx = false ∧ (isNum a = true ∨ isSet a = true)) ∧ okf b = true := by
          rcases ho with h | h
          · rcases h.2 with (h | h) | h
            · exact Or.inl h
            · have e : tx = [75] := by simpa using h.1.1
              exact Or.inr ⟨⟨by rw [e]; decide, Or.inl h.1.2⟩, h.2⟩
            · have e := List.contains_iff_mem.1 h.1.1
              simp only [List.mem_cons, List.not_mem_nil, or_false] at e
              exact Or.inr ⟨⟨by rcases e with rfl | rfl | rfl <;> decide, Or.inr h.1.2⟩, h.2⟩
          · rw [hk] at h; exact absurd h.1.1.1.1 (by decide)
        have oa : isNum a = true ∨ isSet a = true := by
          rcases ho with h | h
          · exact Or.inl h.1.2
          · exact h.1.2
        have := warg_len oa
        split
        · rename_i hf
          have ob : isNum b = true := by
            rcases ho with h | h
            · exact h.2
            · rw [hf] at h; exact absurd h.1.1 (by decide)
          have := warg_len (Or.inl ob)
          simp only [List.length_append, List.length_cons, List.length_nil]
          omega
        · rename_i hf
          have ob : okf b = true := by
            rcases ho with h | h
            · exact absurd h.1.1 hf
            · exact h.2
          have := ih b (by omega) ob
          simp only [List.length_append, List.length_cons, List.length_nil]
          omega
      · rename_i hk
        have ho : okf a = true ∧ okf b = true := by
          rcases ho with h | h
          · exact absurd h.1.1 hk
          · exact ⟨h.1.2, h.2⟩
        have := ih a (by omega) ho.1
        have := ih b (by omega) ho.2
        have := par_len (decide (lvl 2 a < lft 2 tx)) (wrf a)
        have := par_len (decide (lvl 2 b < rgt 2 tx)) (wrf b)
        simp only [List.length_append, List.length_cons]
        omega
    · simp [okf] at ho
end Go.Proofs.YtplbfmcgddnkeaaGreatDoor
end
