/- Joined: Fuel, Mir, OnD, PlainP, Sml, Wi, Alk. -/
import Derived.Test.YtplbfmcgddnkeaaGreatDoorS14
import Derived.Test.YtplbfmcgddnkeaaGreatDoorS01
import Derived.Test.YtplbfmcgddnkeaaGreatDoorS06
import Derived.Test.YtplbfmcgddnkeaaGreatDoorS02
set_option linter.unusedVariables false
set_option linter.unusedSimpArgs false
section
namespace Go.Proofs.YtplbfmcgddnkeaaGreatDoor
def OkR (T : List Tok) (m : Nat) (r : Rd) : Prop := ∀ lv i, m ≤ i → i < T.length → r lv i ≠ .none
section
variable {T : List Tok} {m i lv : Nat} {res : List UInt8 → Bool}
theorem nn_bind {α β : Type} {o : Out α} {f : α → Nat → Out β} (h : o ≠ .none) (hf : ∀ a j, o = .ok a j → f a j ≠ .none) : o.bind f ≠ .none := by
  cases o with
  | none => exact absurd rfl h
  | err p e => intro h; cases h
  | ok a j => exact hf a j rfl
theorem nn_ok {α : Type} (a : α) (j : Nat) : (Out.ok a j) ≠ .none := fun h => by cases h
theorem nn_fail {α : Type} (e j : Nat) : (fail T e j : Out α) ≠ .none := fun h => by cases h
theorem need_nn (s : List UInt8) (i : Nat) : need T s i ≠ .none := by unfold need; split <;> (intro h; cases h)
theorem name_nn (i : Nat) : name res T i ≠ .none := by unfold name; split <;> (intro h; cases h)
theorem number_nn (i : Nat) : number T i ≠ .none := by unfold number; split <;> (intro h; cases h)
theorem within_nn {r : Rd} (hr : OkR T m r) (hm : m ≤ i) (hi : i < T.length) : within T r lv i ≠ .none := by
  unfold within
  split
  · exact nn_fail _ _
  · exact hr _ _ hm hi
theorem parens_nn {r : Rd} (hl : (tk T (T.length - 1)).kind = 3) (hr : OkR T m r) (hm : m ≤ i + 1) (hi : i < T.length) : parens T r lv i ≠ .none :=
  nn_bind (need_nn _ _) fun _ j h => by
    obtain ⟨h1, h2⟩ := need_on hl _ hi _ _ h
    exact nn_bind (within_nn hr (by omega) h2) fun _ _ _ => nn_bind (need_nn _ _) fun _ _ _ => nn_ok _ _
theorem leftLoop_nn {r : Rd} {ops : List (List UInt8)} (hl : (tk T (T.length - 1)).kind = 3) (ho : OnR T r) (hr : OkR T m r) (g : Nat) : ∀ x i, m ≤ i + 1 → i < T.length → T.length < g + i → leftLoop T r ops lv g x i ≠ .none := by
  induction g with
  | zero => intro x i _ h1 h2; omega
  | succ g ih =>
    intro x i hm hi hg
    unfold leftLoop
    split
    · rename_i h
      obtain ⟨e, h2⟩ := nx_on hl hi (isW_kind h)
      rw [e]
      exact nn_bind (hr _ _ hm h2) fun y j hy => by
        obtain ⟨h3, h4⟩ := ho _ _ h2 _ _ hy
        exact ih _ _ (by omega) h4 (by omega)
    · exact nn_ok _ _
theorem left_nn {r : Rd} {ops : List (List UInt8)} (hl : (tk T (T.length - 1)).kind = 3) (ho : OnR T r) (hr : OkR T m r) : OkR T m (left T r ops) := fun lv i hm hi =>
  nn_bind (hr _ _ hm hi) fun x j hx => by
    obtain ⟨h3, h4⟩ := ho _ _ hi _ _ hx
    exact leftLoop_nn hl ho hr _ _ _ (by omega) h4 (by omega)
theorem argsMore_nn {rs : List Rd} (hl : (tk T (T.length - 1)).kind = 3) (ho : ∀ r ∈ rs, OnR T r) (hr : ∀ r ∈ rs, OkR T m r) : ∀ i, m ≤ i + 1 → i < T.length → argsGo.argsMore T rs lv i ≠ .none := by
  induction rs with
  | nil => intro i _ _; exact nn_ok _ _
  | cons r rs ih =>
    intro i hm hi
    exact nn_bind (need_nn _ _) fun _ j h => by
      obtain ⟨h1, h2⟩ := need_on hl _ hi _ _ h
      exact nn_bind (hr r (List.mem_cons_self ..) _ _ (by omega) h2) fun _ k hk => by
        obtain ⟨h3, h4⟩ := ho r (List.mem_cons_self ..) _ _ h2 _ _ hk
        exact nn_bind (ih (fun r h => ho r (List.mem_cons_of_mem _ h)) (fun r h => hr r (List.mem_cons_of_mem _ h)) _ (by omega) h4) fun _ _ _ => nn_ok _ _
theorem argsGo_nn {rs : List Rd} (hl : (tk T (T.length - 1)).kind = 3) (ho : ∀ r ∈ rs, OnR T r) (hr : ∀ r ∈ rs, OkR T m r) (hm : m ≤ i) (hi : i < T.length) : argsGo T rs lv i ≠ .none := by
  cases rs with
  | nil => exact nn_ok _ _
  | cons r rs =>
    exact nn_bind (hr r (List.mem_cons_self ..) _ _ hm hi) fun _ k hk => by
      obtain ⟨h3, h4⟩ := ho r (List.mem_cons_self ..) _ _ hi _ _ hk
      exact nn_bind (argsMore_nn hl (fun r h => ho r (List.mem_cons_of_mem _ h)) (fun r h => hr r (List.mem_cons_of_mem _ h)) _ (by omega) h4) fun _ _ _ => nn_ok _ _
theorem arguments_nn {rs : List Rd} {w : Tok} (hl : (tk T (T.length - 1)).kind = 3) (ho : ∀ r ∈ rs, OnR T r) (hr : ∀ r ∈ rs, OkR T m r) (hm : m ≤ i + 1) (hi : i < T.length) : arguments T w rs lv i ≠ .none :=
  nn_bind (need_nn _ _) fun _ j h => by
    obtain ⟨h1, h2⟩ := need_on hl _ hi _ _ h
    split
    · exact nn_fail _ _
    · exact nn_bind (argsGo_nn hl ho hr (by omega) h2) fun _ _ _ => nn_bind (need_nn _ _) fun _ _ _ => nn_ok _ _
theorem setLoop_nn (hl : (tk T (T.length - 1)).kind = 3) (g : Nat) : ∀ xs i, i < T.length → T.length < g + i → setLoop T g xs i ≠ .none := by
  induction g with
  | zero => intro x i h1 h2; omega
  | succ g ih =>
    intro x i hi hg
    unfold setLoop
    split
    · rename_i h
      obtain ⟨e, h2⟩ := nx_on hl hi (isW_kind h)
      rw [e]
      exact nn_bind (number_nn _) fun y j hy => by
        obtain ⟨h3, h4⟩ := number_on hl h2 _ _ hy
        exact ih _ _ h4 (by omega)
    · exact nn_ok _ _
theorem setR_nn (hl : (tk T (T.length - 1)).kind = 3) (hi : i < T.length) : setR T i ≠ .none := by
  unfold setR
  split
  · exact nn_ok _ _
  · exact nn_bind (need_nn _ _) fun _ j h => by
      obtain ⟨h1, h2⟩ := need_on hl _ hi _ _ h
      split
      · exact nn_ok _ _
      · exact nn_bind (number_nn _) fun _ k hk => by
          obtain ⟨h3, h4⟩ := number_on hl h2 _ _ hk
          exact nn_bind (setLoop_nn hl _ _ _ h4 (by omega)) fun _ _ _ => nn_bind (need_nn _ _) fun _ _ _ => nn_ok _ _
def rank : NT → Nat
  | .cond => 5 | .conj => 4 | .neg => 3 | .sum => 2 | .unit => 1
  | .scheme => 4 | .term => 3 | .factor => 2 | .atom => 1
  | .formula => 4 | .disj => 3 | .meet => 2 | .lit => 1
theorem notR_nn {r : Rd} (hl : (tk T (T.length - 1)).kind = 3) (hr : OkR T m r) (hm : m ≤ i + 1) (hi : i < T.length) (hk : (tk T i).kind ≠ 3) : notR T r lv i ≠ .none := by
  obtain ⟨e, h2⟩ := nx_on hl hi hk
  unfold notR
  rw [e]
  exact nn_bind (within_nn hr hm h2) fun _ _ _ => nn_ok _ _
theorem rd_nn (hl : (tk T (T.length - 1)).kind = 3) (f : Nat) : ∀ nt lv i, i < T.length → 16 * (T.length - i) + rank nt ≤ f → rd res T f nt lv i ≠ .none := by
  induction f with
  | zero => intro nt lv i _ h; cases nt <;> simp [rank] at h
  | succ f ih =>
    intro nt lv i hi hf
    have on : ∀ nt, OnR T (rd res T f nt) := rd_on hl f
    have hs : ∀ nt', rank nt' < rank nt → OkR T i (rd res T f nt') := fun nt' h lv j h1 h2 => ih nt' lv j h2 (by omega)
    have hn : ∀ nt', OkR T (i + 1) (rd res T f nt') := fun nt' lv j h1 h2 => ih nt' lv j h2 (by
      have : rank nt' ≤ 5 := by cases nt' <;> decide
      omega)
    have num : OkR T (i + 1) (fun _ => number T) := fun _ _ _ _ => number_nn _
    have set : OkR T (i + 1) (fun _ => setR T) := fun _ _ _ h => setR_nn hl h
    have onum : OnR T (fun _ => number T) := fun _ _ h => number_on hl h
    have oset : OnR T (fun _ => setR T) := fun _ _ h => setR_on hl h
    have hargs : ∀ ws, isW T ws i = true → ∀ rds : List Rd, (∀ r ∈ rds, OnR T r ∧ OkR T (i + 1) r) → arguments T (tk T i) rds lv (nx T i) ≠ .none := fun ws h rds hr => by
      obtain ⟨e, h2⟩ := nx_on hl hi (isW_kind h)
      rw [e]
      exact arguments_nn hl (fun r h => (hr r h).1) (fun r h => (hr r h).2) (by omega) h2
    have one : ∀ {r : Rd}, OnR T r ∧ OkR T (i + 1) r → ∀ x ∈ [r], OnR T x ∧ OkR T (i + 1) x := fun h x hx => by rw [List.mem_singleton.1 hx]; exact h
    have two : ∀ {r r' : Rd}, OnR T r ∧ OkR T (i + 1) r → OnR T r' ∧ OkR T (i + 1) r' → ∀ x ∈ [r, r'], OnR T x ∧ OkR T (i + 1) x := fun h h' x hx => by
      simp only [List.mem_cons, List.not_mem_nil, or_false] at hx
      rcases hx with rfl | rfl
      · exact h
      · exact h'
    cases nt with
    | cond => exact left_nn hl (on _) (hs _ (by decide)) _ _ (Nat.le_refl _) hi
    | conj => exact left_nn hl (on _) (hs _ (by decide)) _ _ (Nat.le_refl _) hi
    | sum => exact left_nn hl (on _) (hs _ (by decide)) _ _ (Nat.le_refl _) hi
    | scheme => exact left_nn hl (on _) (hs _ (by decide)) _ _ (Nat.le_refl _) hi
    | term => exact left_nn hl (on _) (hs _ (by decide)) _ _ (Nat.le_refl _) hi
    | disj => exact left_nn hl (on _) (hs _ (by decide)) _ _ (Nat.le_refl _) hi
    | meet => exact left_nn hl (on _) (hs _ (by decide)) _ _ (Nat.le_refl _) hi
    | neg =>
      show (if _ then _ else if _ then _ else _ : Out Syn) ≠ .none
      split
      · rename_i h; exact notR_nn hl (hn _) (Nat.le_refl _) hi (isW_kind h)
      · split
        · rename_i h
          obtain ⟨e, h2⟩ := nx_on hl hi (isW_kind h)
          rw [e]
          exact nn_bind (name_nn _) fun _ j hj => nn_bind (need_nn _ _) fun _ k hk => by
            obtain ⟨h3, h4⟩ := name_on hl h2 _ _ hj
            obtain ⟨h5, h6⟩ := need_on hl _ h4 _ _ hk
            exact nn_bind (within_nn (hn _) (by omega) h6) fun _ _ _ => nn_ok _ _
        · exact nn_bind (hs .sum (by decide) _ _ (Nat.le_refl _) hi) fun x j hx => by
            obtain ⟨h3, h4⟩ := on .sum _ _ hi _ _ hx
            split
            · rename_i h
              obtain ⟨e, h2⟩ := nx_on hl h4 (isW_kind h)
              rw [e]
              exact nn_bind (hn .sum _ _ (by omega) h2) fun _ _ _ => nn_ok _ _
            · exact nn_ok _ _
    | unit =>
      show (if _ then _ else if _ then _ else if _ then _ else if _ then _ else if _ then _ else _ : Out Syn) ≠ .none
      split
      · exact number_nn _
      · split
        · rename_i h; exact hargs _ h _ (one ⟨on _, hn _⟩)
        · split
          · rename_i h; exact hargs _ h _ (two ⟨on _, hn _⟩ ⟨on _, hn _⟩)
          · split
            · rename_i h
              obtain ⟨e, h2⟩ := nx_on hl hi (isW_kind h)
              rw [e]
              exact nn_bind (name_nn _) fun _ j hj => by
                obtain ⟨h3, h4⟩ := name_on hl h2 _ _ hj
                exact nn_bind (parens_nn hl (hn _) (by omega) h4) fun _ _ _ => nn_ok _ _
            · split
              · exact parens_nn hl (hn _) (Nat.le_refl _) hi
              · exact name_nn _
    | factor =>
      exact nn_bind (hs .atom (by decide) _ _ (Nat.le_refl _) hi) fun x j hx => by
        obtain ⟨h3, h4⟩ := on .atom _ _ hi _ _ hx
        split
        · rename_i h
          obtain ⟨e, h2⟩ := nx_on hl h4 (isW_kind h)
          rw [e]
          exact nn_bind (number_nn _) fun _ k hk => by
            obtain ⟨h5, h6⟩ := number_on hl h2 _ _ hk
            exact nn_bind (within_nn (hn .factor) (by omega) h6) fun _ _ _ => nn_ok _ _
        · exact nn_ok _ _
    | atom =>
      show (if _ then _ else if _ then _ else if _ then _ else if _ then _ else _ : Out Syn) ≠ .none
      split
      · rename_i h; exact hargs _ h _ (one ⟨onum, num⟩)
      · split
        · exact nn_ok _ _
        · split
          · rename_i h; exact hargs _ h _ (one ⟨on _, hn _⟩)
          · split
            · exact parens_nn hl (hn _) (Nat.le_refl _) hi
            · exact name_nn _
    | formula =>
      exact nn_bind (hs .disj (by decide) _ _ (Nat.le_refl _) hi) fun x j hx => by
        obtain ⟨h3, h4⟩ := on .disj _ _ hi _ _ hx
        split
        · rename_i h
          obtain ⟨e, h2⟩ := nx_on hl h4 (isW_kind h)
          rw [e]
          exact nn_bind (within_nn (hn .formula) (by omega) h2) fun _ _ _ => nn_ok _ _
        · exact nn_ok _ _
    | lit =>
      show (if _ then _ else if _ then _ else if _ then _ else if _ then _ else if _ then _ else if _ then _ else if _ then _ else if _ then _ else _ : Out Syn) ≠ .none
      split
      · rename_i h; exact notR_nn hl (hn _) (Nat.le_refl _) hi (isW_kind h)
      · split
        · exact nn_ok _ _
        · split
          · exact parens_nn hl (hn _) (Nat.le_refl _) hi
          · split
            · rename_i h; exact hargs _ h _ (two ⟨onum, num⟩ ⟨onum, num⟩)
            · split
              · rename_i h; exact hargs _ h _ (one ⟨onum, num⟩)
              · split
                · rename_i h; exact hargs _ h _ (two ⟨onum, num⟩ ⟨on _, hn _⟩)
                · split
                  · rename_i h; exact hargs _ h _ (two ⟨oset, set⟩ ⟨on _, hn _⟩)
                  · split
                    · rename_i h; exact hargs _ h _ (one ⟨on _, hn _⟩)
                    · exact nn_fail _ _
end
end Go.Proofs.YtplbfmcgddnkeaaGreatDoor
end
section
namespace Go.Proofs.YtplbfmcgddnkeaaGreatDoor
structure St where
  i : Nat
  lv : Nat
  er : Int
  ps : Int
section
variable (res : List UInt8 → Bool) (T : List Tok)
def mTake (s : St) : St := if s.er = 0 ∧ (tk T s.i).kind ≠ 3 then ⟨s.i + 1, s.lv, s.er, s.ps⟩ else s
def mFail (e : Int) (s : St) : St := if s.er = 0 then ⟨s.i, s.lv, e, (tk T s.i).pos⟩ else s
def mNeed (w : List UInt8) (s : St) : St := mTake T (if isW T [w] s.i then s else mFail T 4 s)
def mNamed (i : Nat) : Bool := decide ((tk T i).kind = 0) && !res (tk T i).text
def mName (s : St) : Syn × St := (.mk 8 (tk T s.i).text 0 (tk T s.i).pos [], mTake T (if mNamed res T s.i then s else mFail T 4 s))
def mValGo : Int → List UInt8 → Int
  | n, [] => n
  | n, c :: r => if c.toNat < 48 ∨ 57 < c.toNat ∨ 1048576 < n then 0 else mValGo (10 * n + ((c.toNat : Int) - 48)) r
def mVal (l : List UInt8) : Int := mValGo 0 l
def mNumber (s : St) : Syn × St := (.mk 9 [] (mVal (tk T s.i).text) (tk T s.i).pos [], mTake T (if (tk T s.i).kind = 1 then s else mFail T 4 s))
def mUp (s : St) : St := ⟨s.i, s.lv + 1, s.er, s.ps⟩
def mPush (s : St) : St := if 128 < s.lv + 1 then mFail T 12 (mUp s) else mUp s
def mPop (s : St) : St := ⟨s.i, s.lv - 1, s.er, s.ps⟩
abbrev MRd := St → Option (Syn × St)
def mLeftLoop (r : MRd) (ops : List (List UInt8)) : Nat → Syn → St → Option (Syn × St)
  | 0, _, _ => none
  | g + 1, x, s => if s.er = 0 ∧ isW T ops s.i = true then (r (mTake T s)).bind fun p => mLeftLoop r ops g (binary (tk T s.i).text 0 x p.1) p.2 else some (x, s)
def mLeft (r : MRd) (ops : List (List UInt8)) : MRd := fun s => if s.er ≠ 0 then some (synNil, s) else (r s).bind fun p => mLeftLoop T r ops (T.length + 2) p.1 p.2
def mSetLoop : Nat → List Syn → St → Option (List Syn × St)
  | 0, _, _ => none
  | g + 1, xs, s => if s.er = 0 ∧ isW T [[44]] s.i = true then mSetLoop g (xs ++ [(mNumber T (mTake T s)).1]) (mNumber T (mTake T s)).2 else some (xs, s)
def mSet : MRd := fun s =>
  if isW T [[101, 118, 101, 114, 121, 111, 110, 101]] s.i then some (.mk 14 [101, 118, 101, 114, 121, 111, 110, 101] 0 (tk T s.i).pos [], mTake T s)
  else if (mNeed T [123] s).er = 0 ∧ isW T [[125]] (mNeed T [123] s).i = false then
    (mSetLoop T (T.length + 2) [(mNumber T (mNeed T [123] s)).1] (mNumber T (mNeed T [123] s)).2).bind fun p => some (.mk 14 [] 0 (tk T s.i).pos p.1, mNeed T [125] p.2)
  else some (.mk 14 [] 0 (tk T s.i).pos [], mNeed T [125] (mNeed T [123] s))
def mArgs (fo : MRd) (w : List UInt8) : St → Option (List Syn × St) := fun s =>
  if w = [105, 110, 112, 117, 116] ∨ w = [104, 101, 97, 114, 100] ∨ w = [100, 101, 99, 105, 100, 101, 100] then
    some ([(mNumber T s).1, (mNumber T (mNeed T [44] (mNumber T s).2)).1], (mNumber T (mNeed T [44] (mNumber T s).2)).2)
  else if w = [103, 105, 118, 101, 110] ∨ w = [102, 97, 117, 108, 116, 121] ∨ w = [97, 116] then some ([(mNumber T s).1], (mNumber T s).2)
  else if w = [75] then (fo (mNeed T [44] (mNumber T s).2)).bind fun p => some ([(mNumber T s).1, p.1], p.2)
  else if w = [69] ∨ w = [68] ∨ w = [67] then (mSet T s).bind fun q => (fo (mNeed T [44] q.2)).bind fun p => some ([q.1, p.1], p.2)
  else (fo s).bind fun p => some ([p.1], p.2)
def mrd : Nat → NT → MRd
  | 0, _ => fun _ => none
  | f + 1, .cond => mLeft T (mrd f .conj) [kOr]
  | f + 1, .conj => mLeft T (mrd f .neg) [kAnd]
  | f + 1, .neg => fun s =>
    if s.er ≠ 0 then some (synNil, s)
    else if isW T [kNot] s.i then (mrd f .neg (mPush T (mTake T s))).bind fun p => some (.mk 12 [] 0 (tk T s.i).pos [p.1], mPop p.2)
    else if isW T [[97, 108, 108]] s.i = true ∨ isW T [[115, 111, 109, 101]] s.i = true then
      (mrd f .cond (mPush T (mNeed T [58] (mName res T (mTake T s)).2))).bind fun p => some (.mk 13 (tk T s.i).text 0 (tk T s.i).pos [(mName res T (mTake T s)).1, p.1], mPop p.2)
    else (mrd f .sum s).bind fun p =>
      if p.2.er = 0 ∧ isW T [[61], [33, 61], [60], [60, 61]] p.2.i = true then (mrd f .sum (mTake T p.2)).bind fun q => some (binary (tk T p.2.i).text 0 p.1 q.1, q.2)
      else some p
  | f + 1, .sum => mLeft T (mrd f .unit) [[43], [45]]
  | f + 1, .unit => fun s =>
    if s.er ≠ 0 then some (synNil, s)
    else if (tk T s.i).kind = 1 then some (mNumber T s)
    else if mNamed res T s.i then some (mName res T s)
    else if isW T [[40]] s.i then (mrd f .cond (mPush T (mTake T s))).bind fun p => some (p.1, mNeed T [41] (mPop p.2))
    else if isW T [[105, 110]] s.i = true ∨ isW T [[111, 117, 116]] s.i = true then
      (mrd f .sum (mPush T (mNeed T [40] (mTake T s)))).bind fun p => some (.mk 10 (tk T s.i).text 0 (tk T s.i).pos [p.1], mNeed T [41] (mPop p.2))
    else if isW T [[104, 101, 97, 114, 115]] s.i then
      (mrd f .sum (mPush T (mNeed T [40] (mTake T s)))).bind fun p => (mrd f .sum (mNeed T [44] p.2)).bind fun q => some (.mk 10 (tk T s.i).text 0 (tk T s.i).pos [p.1, q.1], mNeed T [41] (mPop q.2))
    else if isW T [[99, 111, 117, 110, 116]] s.i then
      (mrd f .cond (mPush T (mNeed T [40] (mName res T (mTake T s)).2))).bind fun p => some (.mk 13 (tk T s.i).text 0 (tk T s.i).pos [(mName res T (mTake T s)).1, p.1], mNeed T [41] (mPop p.2))
    else some (.mk 10 (tk T s.i).text 0 (tk T s.i).pos [], mFail T 4 s)
  | f + 1, .scheme => mLeft T (mrd f .term) [kOr]
  | f + 1, .term => mLeft T (mrd f .factor) [kAnd]
  | f + 1, .factor => fun s =>
    if s.er ≠ 0 then some (synNil, s)
    else (mrd f .atom s).bind fun p =>
      if p.2.er = 0 ∧ isW T [[116, 104, 101, 110]] p.2.i = true then
        (mrd f .factor (mPush T (mNumber T (mTake T p.2)).2)).bind fun q => some (binary [116, 104, 101, 110] (mNumber T (mTake T p.2)).1.num p.1 q.1, mPop q.2)
      else some p
  | f + 1, .atom => fun s =>
    if mNamed res T s.i then some (mName res T s)
    else if isW T [[99, 114, 97, 115, 104], [115, 101, 110, 100], [114, 101, 99, 101, 105, 118, 101], [111, 109, 105, 116], [112, 97, 114, 116, 105, 116, 105, 111, 110]] s.i then
      some (.mk 10 (tk T s.i).text 0 (tk T s.i).pos [(mNumber T (mPush T (mNeed T [40] (mTake T s)))).1], mNeed T [41] (mPop (mNumber T (mPush T (mNeed T [40] (mTake T s)))).2))
    else if isW T [[115, 110, 97, 112, 115, 104, 111, 116]] s.i then some (.mk 10 (tk T s.i).text 0 (tk T s.i).pos [], mTake T s)
    else if isW T [[103, 114, 97, 112, 104, 115]] s.i then
      (mrd f .cond (mPush T (mNeed T [40] (mTake T s)))).bind fun p => some (.mk 10 (tk T s.i).text 0 (tk T s.i).pos [p.1], mNeed T [41] (mPop p.2))
    else if isW T [[40]] s.i then (mrd f .scheme (mPush T (mTake T s))).bind fun p => some (p.1, mNeed T [41] (mPop p.2))
    else some (.mk 10 (tk T s.i).text 0 (tk T s.i).pos [], mFail T 4 s)
  | f + 1, .formula => fun s => (mrd f .disj s).bind fun p =>
    if p.2.er = 0 ∧ isW T [[117, 110, 116, 105, 108]] p.2.i = true then
      (mrd f .formula (mPush T (mTake T p.2))).bind fun q => some (binary [117, 110, 116, 105, 108] 0 p.1 q.1, mPop q.2)
    else some p
  | f + 1, .disj => mLeft T (mrd f .meet) [kOr]
  | f + 1, .meet => mLeft T (mrd f .lit) [kAnd]
  | f + 1, .lit => fun s =>
    if s.er ≠ 0 then some (synNil, s)
    else if isW T [kNot] s.i then (mrd f .lit (mPush T (mTake T s))).bind fun p => some (.mk 12 [] 0 (tk T s.i).pos [p.1], mPop p.2)
    else if isW T [[116, 114, 117, 101]] s.i then some (.mk 10 (tk T s.i).text 0 (tk T s.i).pos [], mTake T s)
    else if isW T [[40]] s.i then (mrd f .formula (mPush T (mTake T s))).bind fun p => some (p.1, mNeed T [41] (mPop p.2))
    else if isW T [[105, 110, 112, 117, 116], [104, 101, 97, 114, 100], [100, 101, 99, 105, 100, 101, 100], [103, 105, 118, 101, 110], [102, 97, 117, 108, 116, 121], [97, 116], [75], [69], [68], [67], [110, 101, 120, 116], [97, 108, 119, 97, 121, 115], [101, 118, 101, 110, 116, 117, 97, 108, 108, 121]] s.i then
      (mArgs T (mrd f .formula) (tk T s.i).text (mPush T (mNeed T [40] (mTake T s)))).bind fun p => some (.mk 10 (tk T s.i).text 0 (tk T s.i).pos p.1, mNeed T [41] (mPop p.2))
    else some (.mk 10 (tk T s.i).text 0 (tk T s.i).pos [], mFail T 4 s)
def mStart : St := ⟨0, 0, 0, 0⟩
def mEnd (s : St) : St := if (tk T s.i).kind = 3 then s else mFail T 4 s
def mWhole (r : MRd) : Option (Syn × St) := (r mStart).bind fun p => some (p.1, mEnd T p.2)
end
structure TokOk (T : List Tok) : Prop where
  last : (tk T (T.length - 1)).kind = 3
  num : ∀ i, i < T.length → (tk T i).kind = 1 → mVal (tk T i).text = (dv 0 (tk T i).text : Nat)
  par : ∀ i, (tk T i).kind = 0 → (tk T i).text ≠ [40]
end Go.Proofs.YtplbfmcgddnkeaaGreatDoor
end
section
set_option maxHeartbeats 1000000
namespace Go.Proofs.YtplbfmcgddnkeaaGreatDoor
section
variable {res : List UInt8 → Bool} {T : List Tok} {lv lv' i f : Nat} {a : Int}
def declHd (res : List UInt8 → Bool) (T : List Tok) (f : Nat) : Rd := fun lv i =>
  if isW T [[116, 97, 115, 107]] i then
    (name res T (nx T i)).bind fun nm j => (need T [105, 110, 112, 117, 116, 115] j).bind fun _ j => (number T j).bind fun a j => (need T [111, 117, 116, 112, 117, 116, 115] j).bind fun _ j =>
    (number T j).bind fun b j => (optPart res T f [119, 104, 101, 114, 101] 2 [b] lv j).bind fun xs j =>
    if isW T [[97, 108, 108, 111, 119]] j then (part res T f 3 lv j).bind fun y j => (optPart res T f [99, 97, 108, 109] 4 (xs ++ [y]) lv j).bind fun ys j => .ok (Syn.mk 1 nm.text a.num (tk T i).pos ys) j
    else fail T 4 j
  else if isW T [[97, 100, 118, 101, 114, 115, 97, 114, 121]] i then
    (name res T (nx T i)).bind fun nm j => (need T [61] j).bind fun _ j => (rd res T f .scheme lv j).bind fun x j => .ok (Syn.mk 5 nm.text 0 (tk T i).pos [x]) j
  else if isW T [[102, 111, 114, 109, 117, 108, 97]] i then
    (name res T (nx T i)).bind fun nm j => (need T [61] j).bind fun _ j => (rd res T f .formula lv j).bind fun x j => .ok (Syn.mk 6 nm.text 0 (tk T i).pos [x]) j
  else if isW T [[112, 114, 111, 98, 108, 101, 109]] i then
    (name res T (nx T i)).bind fun nm j => (need T [61] j).bind fun _ j => (name res T j).bind fun a j => (need T [117, 110, 100, 101, 114] j).bind fun _ j => (name res T j).bind fun b j =>
    (need T [114, 111, 117, 110, 100, 115] j).bind fun _ j => (number T j).bind fun n j => .ok (Syn.mk 7 nm.text n.num (tk T i).pos [a, b]) j
  else fail T 4 i
theorem head_eq : declaration res T f lv i = (declHd res T f lv i).bind fun x j => (need T [59] j).bind fun _ j => .ok x j := rfl
theorem part_on {k : Int} (hl : (tk T (T.length - 1)).kind = 3) (hi : i < T.length) (hk : (tk T i).kind ≠ 3) : On T i (part res T f k lv i) :=
  On.behind hl hi hk fun j _ h2 e => by
    unfold part
    rw [e]
    exact ((rd_on hl f _ _ _ h2).bind fun _ _ _ h => On0.ok h).zero
theorem opt_on {w : List UInt8} {k : Int} {xs : List Syn} (hl : (tk T (T.length - 1)).kind = 3) (hi : i < T.length) : On0 T i (optPart res T f w k xs lv i) := by
  unfold optPart
  split
  · rename_i h; exact ((part_on hl hi (isW_kind h)).bind fun _ _ _ h => On0.ok h).zero
  · exact On0.ok hi
theorem head_on (hl : (tk T (T.length - 1)).kind = 3) (hi : i < T.length) : On T i (declHd res T f lv i) := by
  unfold declHd
  split
  · rename_i h
    refine On.behind hl hi (isW_kind h) fun j _ h2 e => ?_
    rw [e]
    refine ((name_on hl h2).bind fun _ _ _ h => ((need_on hl _ h).bind fun _ _ _ h => ((number_on hl h).bind fun _ _ _ h => ((need_on hl _ h).bind fun _ _ _ h => ((number_on hl h).bind fun _ _ _ h => (opt_on hl h).bind fun _ j _ h => ?_).zero).zero).zero).zero).zero
    split
    · rename_i hw
      exact ((part_on hl h (isW_kind hw)).bind fun _ _ _ h => (opt_on hl h).bind fun _ _ _ h => On0.ok h).zero
    · exact (On.fail _).zero
  split
  · rename_i h
    refine On.behind hl hi (isW_kind h) fun j _ h2 e => ?_
    rw [e]
    exact ((name_on hl h2).bind fun _ _ _ h => ((need_on hl _ h).bind fun _ _ _ h => ((rd_on hl f _ _ _ h).bind fun _ _ _ h => On0.ok h).zero).zero).zero
  split
  · rename_i h
    refine On.behind hl hi (isW_kind h) fun j _ h2 e => ?_
    rw [e]
    exact ((name_on hl h2).bind fun _ _ _ h => ((need_on hl _ h).bind fun _ _ _ h => ((rd_on hl f _ _ _ h).bind fun _ _ _ h => On0.ok h).zero).zero).zero
  split
  · rename_i h
    refine On.behind hl hi (isW_kind h) fun j _ h2 e => ?_
    rw [e]
    exact ((name_on hl h2).bind fun _ _ _ h => ((need_on hl _ h).bind fun _ _ _ h => ((name_on hl h).bind fun _ _ _ h => ((need_on hl _ h).bind fun _ _ _ h => ((name_on hl h).bind fun _ _ _ h => ((need_on hl _ h).bind fun _ _ _ h => ((number_on hl h).bind fun _ _ _ h => On0.ok h).zero).zero).zero).zero).zero).zero).zero
  · exact On.fail _
theorem decl_on (hl : (tk T (T.length - 1)).kind = 3) (hi : i < T.length) : On T i (declaration res T f lv i) :=
  (head_on hl hi).bind fun _ _ _ h => ((need_on hl _ h).bind fun _ _ _ h => On0.ok h).zero
theorem part_nn {k : Int} (hl : (tk T (T.length - 1)).kind = 3) (h : ∀ nt j, i < j → j < T.length → rd res T f nt lv j ≠ .none) (hi : i < T.length) (hk : (tk T i).kind ≠ 3) : part res T f k lv i ≠ .none := by
  obtain ⟨q1, q2⟩ := nx_on hl hi hk
  unfold part
  rw [q1]
  exact nn_bind (h _ _ (by omega) q2) fun _ _ _ => nn_ok _ _
theorem opt_nn {k : Int} {w : List UInt8} {xs : List Syn} (hl : (tk T (T.length - 1)).kind = 3) (h : ∀ nt j, i < j → j < T.length → rd res T f nt lv j ≠ .none) (hi : i < T.length) : optPart res T f w k xs lv i ≠ .none := by
  unfold optPart
  split
  · rename_i hw; exact nn_bind (part_nn hl h hi (isW_kind hw)) fun _ _ _ => nn_ok _ _
  · exact nn_ok _ _
theorem head_nn (hl : (tk T (T.length - 1)).kind = 3) (h : ∀ nt j, i < j → j < T.length → rd res T f nt lv j ≠ .none) (hi : i < T.length) : declHd res T f lv i ≠ .none := by
  have hb : ∀ {w : List UInt8}, isW T [w] i = true → i < nx T i ∧ nx T i < T.length := fun hw => by
    obtain ⟨q1, q2⟩ := nx_on hl hi (isW_kind hw); omega
  unfold declHd
  split
  · rename_i hw
    obtain ⟨q1, q2⟩ := hb hw
    refine nn_bind (name_nn _) fun _ j e => ?_
    obtain ⟨a1, a2⟩ := name_on hl q2 _ _ e
    refine nn_bind (need_nn _ _) fun _ j e => ?_
    obtain ⟨b1, b2⟩ := need_on hl _ a2 _ _ e
    refine nn_bind (number_nn _) fun _ j e => ?_
    obtain ⟨c1, c2⟩ := number_on hl b2 _ _ e
    refine nn_bind (need_nn _ _) fun _ j e => ?_
    obtain ⟨d1, d2⟩ := need_on hl _ c2 _ _ e
    refine nn_bind (number_nn _) fun _ j e => ?_
    obtain ⟨e1, e2⟩ := number_on hl d2 _ _ e
    refine nn_bind (opt_nn hl (fun nt j hj => h nt j (by omega)) e2) fun _ j e => ?_
    obtain ⟨f1, f2⟩ := opt_on hl e2 _ _ e
    split
    · rename_i hw
      refine nn_bind (part_nn hl (fun nt j hj => h nt j (by omega)) f2 (isW_kind hw)) fun _ j e => ?_
      obtain ⟨g1, g2⟩ := part_on hl f2 (isW_kind hw) _ _ e
      exact nn_bind (opt_nn hl (fun nt j hj => h nt j (by omega)) g2) fun _ _ _ => nn_ok _ _
    · exact nn_fail _ _
  split
  · rename_i hw
    obtain ⟨q1, q2⟩ := hb hw
    refine nn_bind (name_nn _) fun _ j e => ?_
    obtain ⟨a1, a2⟩ := name_on hl q2 _ _ e
    refine nn_bind (need_nn _ _) fun _ j e => ?_
    obtain ⟨b1, b2⟩ := need_on hl _ a2 _ _ e
    exact nn_bind (h _ _ (by omega) b2) fun _ _ _ => nn_ok _ _
  split
  · rename_i hw
    obtain ⟨q1, q2⟩ := hb hw
    refine nn_bind (name_nn _) fun _ j e => ?_
    obtain ⟨a1, a2⟩ := name_on hl q2 _ _ e
    refine nn_bind (need_nn _ _) fun _ j e => ?_
    obtain ⟨b1, b2⟩ := need_on hl _ a2 _ _ e
    exact nn_bind (h _ _ (by omega) b2) fun _ _ _ => nn_ok _ _
  split
  · exact nn_bind (name_nn _) fun _ _ _ => nn_bind (need_nn _ _) fun _ _ _ => nn_bind (name_nn _) fun _ _ _ => nn_bind (need_nn _ _) fun _ _ _ => nn_bind (name_nn _) fun _ _ _ => nn_bind (need_nn _ _) fun _ _ _ => nn_bind (number_nn _) fun _ _ _ => nn_ok _ _
  · exact nn_fail _ _
theorem decl_nn (hl : (tk T (T.length - 1)).kind = 3) (h : ∀ nt j, i < j → j < T.length → rd res T f nt lv j ≠ .none) (hi : i < T.length) : declaration res T f lv i ≠ .none := by
  rw [head_eq]
  exact nn_bind (head_nn hl h hi) fun _ _ _ => nn_bind (need_nn _ _) fun _ _ _ => nn_ok _ _
theorem declLoop_nn (hl : (tk T (T.length - 1)).kind = 3) (h : ∀ nt j, j < T.length → rd res T f nt lv j ≠ .none) (g : Nat) : ∀ xs i, i < T.length → T.length < g + i → declLoop res T f lv g xs i ≠ .none := by
  induction g with
  | zero => intro x i h1 h2; omega
  | succ g ih =>
    intro xs i hi hg
    rw [declLoop]
    split
    · exact nn_ok _ _
    · refine nn_bind (decl_nn hl (fun nt j _ => h nt j) hi) fun y j e => ?_
      obtain ⟨h3, h4⟩ := decl_on hl hi _ _ e
      exact ih _ _ h4 (by omega)
theorem program_nn (hl : (tk T (T.length - 1)).kind = 3) (h : ∀ nt j, j < T.length → rd res T f nt lv j ≠ .none) (hi : i < T.length) : program res T f lv i ≠ .none := by
  unfold program
  refine nn_bind (need_nn _ _) fun _ j e => ?_
  obtain ⟨a1, a2⟩ := need_on hl _ hi _ _ e
  refine nn_bind (number_nn _) fun _ j e => ?_
  obtain ⟨b1, b2⟩ := number_on hl a2 _ _ e
  refine nn_bind (need_nn _ _) fun _ j e => ?_
  obtain ⟨c1, c2⟩ := need_on hl _ b2 _ _ e
  exact nn_bind (declLoop_nn hl h _ _ _ c2 (by omega)) fun _ _ _ => nn_ok _ _
theorem whole_nn {r : Rd} (hr : r 0 0 ≠ .none) : whole T r ≠ .none := by
  unfold whole
  refine nn_bind hr fun _ _ _ => ?_
  split
  · exact nn_ok _ _
  · exact nn_fail _ _
end
end Go.Proofs.YtplbfmcgddnkeaaGreatDoor
end
section
namespace Go.Proofs.YtplbfmcgddnkeaaGreatDoor
theorem mValGo_dv : ∀ (l : List UInt8) (n : Nat), (∀ c ∈ l, isDigit c.toNat = true) → dv n l ≤ 1048576 → mValGo n l = (dv n l : Nat)
  | [], _, _, _ => rfl
  | c :: r, n, hd, h => by
    have hc := hd c (by simp)
    simp only [isDigit, Bool.and_eq_true, decide_eq_true_eq] at hc
    rw [dv_cons] at h ⊢
    have h1 := dv_ge r (10 * n + (c.toNat - 48))
    have h2 : 0 < 10 ^ r.length := Nat.pow_pos (by omega)
    have h3 : 10 * n + (c.toNat - 48) ≤ (10 * n + (c.toNat - 48)) * 10 ^ r.length := Nat.le_mul_of_pos_right _ h2
    rw [mValGo, if_neg (by omega)]
    have e : (10 * (n : Int) + ((c.toNat : Int) - 48)) = ((10 * n + (c.toNat - 48) : Nat) : Int) := by omega
    rw [e]
    exact mValGo_dv r _ (fun c h => hd c (by simp [h])) h
theorem tok_name {l : List UInt8} {n : Nat} (h : tok l = .ok (0, n)) : l.take n ≠ [40] := by
  unfold tok at h
  by_cases h1 : runLen isWordy l = 0
  · rw [if_pos h1] at h; split at h <;> simp at h
  rw [if_neg h1] at h
  by_cases h2 : runLen isLetter l = 0
  · rw [if_pos h2] at h
    split at h
    · simp at h
    · split at h <;> simp at h
  · intro e
    cases l with
    | nil => simp at e
    | cons c r =>
      cases n with
      | zero => simp at e
      | succ n =>
        rw [List.take_succ_cons] at e
        have hc : c = 40 := (List.cons.inj e).1
        subst hc
        exact h2 (by simp [runLen, isLetter])
theorem scanGo_name (f : Nat) : ∀ (p : Nat) (l : List UInt8) (ts : List Tok), scanGo f p l = .ok ts → ∀ t ∈ ts, t.kind = 0 → t.text ≠ [40] := by
  induction f with
  | zero => intro p l ts h; simp [scanGo] at h; subst h; simp
  | succ f ih =>
    intro p l ts h
    simp only [scanGo] at h
    split at h
    · simp only [Except.ok.injEq] at h; subst h
      intro t ht
      rw [List.mem_singleton.1 ht]
      simp
    · rename_i c r hd
      split at h
      · simp at h
      · rename_i kind n ht
        split at h
        · simp at h
        · rename_i us hu
          simp only [Except.ok.injEq] at h
          subst h
          intro t hm
          rcases List.mem_cons.1 hm with rfl | hm
          · intro hk
            have hk1 : kind = 0 := by simp only at hk; omega
            subst hk1
            exact tok_name ht
          · exact ih _ _ _ hu t hm
theorem scanGo_len2 (f : Nat) : ∀ (p : Nat) (l : List UInt8) (ts : List Tok), scanGo f p l = .ok ts → ts.length ≤ l.length + 1 := by
  induction f with
  | zero => intro p l ts h; simp [scanGo] at h; subst h; simp
  | succ f ih =>
    intro p l ts h
    simp only [scanGo] at h
    split at h
    · simp at h; subst h; simp
    · rename_i c r hd
      have hlen : (c :: r).length = l.length - skip false l := by rw [← hd]; simp
      split at h
      · simp at h
      · rename_i kind n ht
        have hp := tok_pos ht
        split at h
        · simp at h
        · rename_i us hus
          have := ih _ _ _ hus
          simp at h; subst h
          simp only [List.length_drop] at this
          simp only [List.length_cons] at *
          omega
structure Scanned (s : List UInt8) (T : List Tok) : Prop where
  ok : TokOk T
  pos : 0 < T.length
  len : T.length ≤ s.length + 1
  num : ∀ t ∈ T, t.kind = 1 → t.text ≠ [] ∧ (∀ c ∈ t.text, isDigit c.toNat = true) ∧ dv 0 t.text ≤ 1048576
  txt : ∀ t ∈ T, t.text.length ≤ s.length
theorem tk_mem {T : List Tok} {i : Nat} (h : i < T.length) : tk T i ∈ T := by
  unfold tk
  rw [List.getD_eq_getElem?_getD, List.getElem?_eq_getElem h]
  exact List.getElem_mem h
theorem scanned {s : List UInt8} {T : List Tok} (h : scan s = .ok T) : Scanned s T := by
  unfold scan at h
  split at h
  · simp at h
  · have h1 := scanGo_num _ _ _ _ h
    obtain ⟨a, t, rfl, hk⟩ := scanGo_last _ _ _ _ (by omega) h
    have hp : 0 < (a ++ [t]).length := by simp
    refine ⟨⟨?_, fun i hi hk => ?_, fun i hk => ?_⟩, hp, scanGo_len2 _ _ _ _ h, fun t ht => (h1 t ht).1, fun t ht => (h1 t ht).2⟩
    · have : tk (a ++ [t]) ((a ++ [t]).length - 1) = t := by
        unfold tk
        simp [List.getD_eq_getElem?_getD]
      rw [this]; exact hk
    · obtain ⟨n0, n1, n2⟩ := (h1 _ (tk_mem hi)).1 hk
      exact mValGo_dv _ 0 n1 n2
    · rcases Nat.lt_or_ge i (a ++ [t]).length with hi | hi
      · exact scanGo_name _ _ _ _ h _ (tk_mem hi) hk
      · exfalso
        have : tk (a ++ [t]) i = tkEnd := by unfold tk; rw [List.getD_eq_getElem?_getD, List.getElem?_eq_none hi]; rfl
        rw [this] at hk; revert hk; decide
end Go.Proofs.YtplbfmcgddnkeaaGreatDoor
end
section
namespace Go.Proofs.YtplbfmcgddnkeaaGreatDoor
inductive Small : Syn → Prop
  | mk {kd : Int} {tx : List UInt8} {n a : Int} {k : List Syn} (h : k.length ≤ 1000000) (hk : ∀ z ∈ k, Small z) : Small (.mk kd tx n a k)
def AllO {α : Type} (P : α → Prop) (o : Out α) : Prop := match o with | .ok a _ => P a | _ => True
theorem AllO.bind {α β : Type} {P : α → Prop} {Q : β → Prop} {o : Out α} {f : α → Nat → Out β} (h : AllO P o) (hf : ∀ a j, P a → AllO Q (f a j)) : AllO Q (o.bind f) := by
  cases o with
  | none => trivial
  | err p e => trivial
  | ok a j => exact hf a j h
section
variable {res : List UInt8 → Bool} {T : List Tok} {lv i : Nat}
end
end Go.Proofs.YtplbfmcgddnkeaaGreatDoor
end
section
set_option maxHeartbeats 1000000
set_option maxRecDepth 100000
namespace Go.Proofs.YtplbfmcgddnkeaaGreatDoor
section
variable {P : Int → Int → Prop}
theorem tw_num {x y : Syn} (h : Twin P x y) : isNum x = isNum y := by
  cases h with
  | mk hp h => cases h <;> rfl
theorem tw_nm {x y : Syn} (h : Twin P x y) : isNm x = isNm y := by
  cases h with
  | mk hp h => cases h <;> rfl
theorem tw_all {b : Syn → Bool} (hb : ∀ x y, Twin P x y → b x = b y) : ∀ {k l : List Syn}, TwinL P k l → k.all b = l.all b
  | _, _, .nil => rfl
  | _, _, .cons h hr => by rw [List.all_cons, List.all_cons, hb _ _ h, tw_all hb hr]
theorem tw_empty {k l : List Syn} (h : TwinL P k l) : k.isEmpty = l.isEmpty := by cases h <;> rfl
theorem tw_set {x y : Syn} (h : Twin P x y) : isSet x = isSet y := by
  unfold isSet
  rw [h.kind_eq, h.text_eq, h.num_eq, tw_all (fun _ _ => tw_num) h.kids_rel, tw_empty h.kids_rel]
theorem tw_lvl {k : Nat} {x y : Syn} (h : Twin P x y) : lvl k x = lvl k y := by
  unfold lvl
  rw [h.kind_eq, h.text_eq]
theorem tw_decs {k l : List Syn} (h : TwinL P k l) : (k.map fun x => dec x.num.toNat) = l.map fun x => dec x.num.toNat := by
  match k, l, h with
  | _, _, .nil => rfl
  | _, _, .cons h hr => rw [List.map_cons, List.map_cons, h.num_eq, tw_decs hr]
theorem tw_arg {x y : Syn} (h : Twin P x y) : warg x = warg y := by
  unfold warg wset
  rw [h.kind_eq, h.text_eq, h.num_eq, tw_decs h.kids_rel]
theorem tw_c : ∀ (m : Nat) (x y : Syn), SizeOf.sizeOf x < m → Twin P x y → okc x = okc y ∧ wrc x = wrc y ∧ opn x = opn y := by
  intro m
  induction m with
  | zero => intro x y h; omega
  | succ m ih =>
    intro x y hm h
    cases h with
    | mk hp h =>
      simp only [Syn.mk.sizeOf_spec] at hm
      cases h with
      | nil => exact ⟨rfl, rfl, rfl⟩
      | cons h hr =>
        cases hr with
        | nil =>
          simp only [List.cons.sizeOf_spec, List.nil.sizeOf_spec] at hm
          obtain ⟨h1, h2, h3⟩ := ih _ _ (by omega) h
          refine ⟨?_, ?_, ?_⟩
          · simp only [okc, h1]
          · simp only [wrc, h2, tw_lvl h]
          · simp only [opn, h3, tw_lvl h]
        | cons h' hr =>
          simp only [List.cons.sizeOf_spec] at hm
          obtain ⟨h1, h2, h3⟩ := ih _ _ (by omega) h
          obtain ⟨k1, k2, k3⟩ := ih _ _ (by omega) h'
          cases hr with
          | nil =>
            refine ⟨?_, ?_, ?_⟩
            · simp only [okc, h1, k1, tw_nm h]
            · simp only [wrc, h2, k2, tw_lvl h, tw_lvl h', h.text_eq, looseB, h3]
            · simp only [opn, k3, tw_lvl h']
          | cons => exact ⟨rfl, rfl, rfl⟩
theorem tw_s : ∀ (m : Nat) (x y : Syn), SizeOf.sizeOf x < m → Twin P x y → oks x = oks y ∧ wrs x = wrs y := by
  intro m
  induction m with
  | zero => intro x y h; omega
  | succ m ih =>
    intro x y hm h
    cases h with
    | mk hp h =>
      simp only [Syn.mk.sizeOf_spec] at hm
      cases h with
      | nil => exact ⟨rfl, rfl⟩
      | cons h hr =>
        cases hr with
        | nil =>
          obtain ⟨h1, h2, -⟩ := tw_c _ _ _ (Nat.lt_succ_self _) h
          refine ⟨?_, ?_⟩
          · simp only [oks, h1, tw_num h]
          · simp only [wrs, h2]
        | cons h' hr =>
          simp only [List.cons.sizeOf_spec] at hm
          obtain ⟨h1, h2⟩ := ih _ _ (by omega) h
          obtain ⟨k1, k2⟩ := ih _ _ (by omega) h'
          cases hr with
          | nil =>
            refine ⟨?_, ?_⟩
            · simp only [oks, h1, k1]
            · simp only [wrs, h2, k2, tw_lvl h, tw_lvl h']
          | cons => exact ⟨rfl, rfl⟩
theorem tw_f : ∀ (m : Nat) (x y : Syn), SizeOf.sizeOf x < m → Twin P x y → okf x = okf y ∧ wrf x = wrf y := by
  intro m
  induction m with
  | zero => intro x y h; omega
  | succ m ih =>
    intro x y hm h
    cases h with
    | mk hp h =>
      simp only [Syn.mk.sizeOf_spec] at hm
      cases h with
      | nil => exact ⟨rfl, rfl⟩
      | cons h hr =>
        cases hr with
        | nil =>
          simp only [List.cons.sizeOf_spec, List.nil.sizeOf_spec] at hm
          obtain ⟨h1, h2⟩ := ih _ _ (by omega) h
          refine ⟨?_, ?_⟩
          · simp only [okf, h1, tw_num h]
          · simp only [wrf, h2, tw_lvl h, tw_arg h]
        | cons h' hr =>
          simp only [List.cons.sizeOf_spec] at hm
          obtain ⟨h1, h2⟩ := ih _ _ (by omega) h
          obtain ⟨k1, k2⟩ := ih _ _ (by omega) h'
          cases hr with
          | nil =>
            refine ⟨?_, ?_⟩
            · simp only [okf, h1, k1, tw_num h, tw_num h', tw_set h]
            · simp only [wrf, h2, k2, tw_lvl h, tw_lvl h', tw_arg h, tw_arg h']
          | cons => exact ⟨rfl, rfl⟩
theorem tw_wrc {x y : Syn} (h : Twin P x y) : wrc x = wrc y := (tw_c _ _ _ (Nat.lt_succ_self _) h).2.1
theorem tw_wrs {x y : Syn} (h : Twin P x y) : wrs x = wrs y := (tw_s _ _ _ (Nat.lt_succ_self _) h).2
theorem tw_wrf {x y : Syn} (h : Twin P x y) : wrf x = wrf y := (tw_f _ _ _ (Nat.lt_succ_self _) h).2
end
end Go.Proofs.YtplbfmcgddnkeaaGreatDoor
end
section
namespace Go.Proofs.YtplbfmcgddnkeaaGreatDoor
structure AlkT (T U : List Tok) : Prop where
  len : T.length = U.length
  kind : ∀ i, (tk T i).kind = (tk U i).kind
  text : ∀ i, (tk T i).text = (tk U i).text
abbrev Any : Int → Int → Prop := fun _ _ => True
def TwO {α β : Type} (R : α → β → Prop) (o : Out α) (u : Out β) : Prop :=
  match o, u with | .none, .none => True | .err _ e, .err _ f => e = f | .ok a i, .ok b j => i = j ∧ R a b | _, _ => False
theorem TwO.bind {α β γ δ : Type} {R : α → β → Prop} {Q : γ → δ → Prop} {o : Out α} {u : Out β} {f : α → Nat → Out γ} {g : β → Nat → Out δ} (h : TwO R o u) (hf : ∀ a b i, R a b → TwO Q (f a i) (g b i)) : TwO Q (o.bind f) (u.bind g) := by
  cases o <;> cases u <;> simp only [TwO] at h
  · exact h
  · exact h
  · obtain ⟨rfl, h⟩ := h
    exact hf _ _ _ h
abbrev TwS (o u : Out Syn) : Prop := TwO (Twin Any) o u
section
variable {T U : List Tok} {res : List UInt8 → Bool} {lv i : Nat}
theorem AlkT.isW (h : AlkT T U) (ws : List (List UInt8)) (i : Nat) : isW T ws i = Proofs.YtplbfmcgddnkeaaGreatDoor.isW U ws i := by unfold Proofs.YtplbfmcgddnkeaaGreatDoor.isW; rw [h.kind, h.text]
theorem AlkT.nx (h : AlkT T U) (i : Nat) : nx T i = Proofs.YtplbfmcgddnkeaaGreatDoor.nx U i := by unfold Proofs.YtplbfmcgddnkeaaGreatDoor.nx; rw [h.len]
def KR (r q : Rd) : Prop := ∀ lv i, TwS (r lv i) (q lv i)
inductive KRs : List Rd → List Rd → Prop
  | nil : KRs [] []
  | cons {r q : Rd} {rs qs : List Rd} (h : KR r q) (hr : KRs rs qs) : KRs (r :: rs) (q :: qs)
end
end Go.Proofs.YtplbfmcgddnkeaaGreatDoor
end
