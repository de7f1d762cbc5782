/- Walks of functions, and plain facts. -/
import Derived.Test.YtplbfmcgddnkeaaGreatDoorC14
import Derived.Test.YtplbfmcgddnkeaaGreatDoorC01
import Derived.Test.YtplbfmcgddnkeaaGreatDoorC06
import Derived.Test.YtplbfmcgddnkeaaGreatDoorC07
set_option linter.unusedVariables false
set_option linter.unusedSimpArgs false
set_option maxHeartbeats 20000000
set_option maxRecDepth 100000
namespace Go.Proofs.YtplbfmcgddnkeaaGreatDoor
section
def OkR (T : List Tok) (m : Nat) (r : Rd) : Prop := ∀ lv i, m ≤ i → i < T.length → r lv i ≠ .none
section
variable {T : List Tok} {m i lv : Nat} {res : List UInt8 → Bool}
theorem Q02 {α β : Type} {o : Out α} {f : α → Nat → Out β} (h : o ≠ .none) (hf : ∀ a j, o = .ok a j → f a j ≠ .none) : o.bind f ≠ .none := by
 cases o with
 | none => exact absurd rfl h
 | err p e => intro h; cases h
 | ok a j => exact hf a j rfl
theorem Q0z {α : Type} (a : α) (j : Nat) : (Out.ok a j) ≠ .none := fun h => by cases h
theorem Q8f {α : Type} (e j : Nat) : (fail T e j : Out α) ≠ .none := fun h => by cases h
theorem Q4c (s : List UInt8) (i : Nat) : need T s i ≠ .none := by unfold need; split <;> (intro h; cases h)
theorem Q8k (i : Nat) : name res T i ≠ .none := by unfold name; split <;> (intro h; cases h)
theorem Q76 (i : Nat) : number T i ≠ .none := by unfold number; split <;> (intro h; cases h)
theorem Q7m {r : Rd} (hr : OkR T m r) (hm : m ≤ i) (hi : i < T.length) : within T r lv i ≠ .none := by
 unfold within
 split
 ·exact Q8f _ _
 ·exact hr _ _ hm hi
theorem Q9e {r : Rd} (hl : (tk T (T.length - 1)).kind = 3) (hr : OkR T m r) (hm : m ≤ i + 1) (hi : i < T.length) : parens T r lv i ≠ .none :=
 Q02 (Q4c _ _) fun _ j h => by
  obtain ⟨h1, h2⟩ := Q2m hl _ hi _ _ h
  exact Q02 (Q7m hr (by omega) h2) fun _ _ _ => Q02 (Q4c _ _) fun _ _ _ => Q0z _ _
theorem Qjg {r : Rd} {ops : List (List UInt8)} (hl : (tk T (T.length - 1)).kind = 3) (ho : OnR T r) (hr : OkR T m r) (g : Nat) : ∀ x i, m ≤ i + 1 → i < T.length → T.length < g + i → Q1b T r ops lv g x i ≠ .none := by
 induction g with
 | zero => intro x i _ h1 h2; omega
 | succ g ih =>
  intro x i hm hi hg
  unfold Q1b
  split
  ·rename_i h
   obtain ⟨e, h2⟩ := Q04 hl hi (Qc h)
   rw [e]
   exact Q02 (hr _ _ hm h2) fun y j hy => by
    obtain ⟨h3, h4⟩ := ho _ _ h2 _ _ hy
    exact ih _ _ (by omega) h4 (by omega)
  ·exact Q0z _ _
theorem Q55 {r : Rd} {ops : List (List UInt8)} (hl : (tk T (T.length - 1)).kind = 3) (ho : OnR T r) (hr : OkR T m r) : OkR T m (left T r ops) := fun lv i hm hi =>
 Q02 (hr _ _ hm hi) fun x j hx => by
  obtain ⟨h3, h4⟩ := ho _ _ hi _ _ hx
  exact Qjg hl ho hr _ _ _ (by omega) h4 (by omega)
theorem Qie {rs : List Rd} (hl : (tk T (T.length - 1)).kind = 3) (ho : ∀ r ∈ rs, OnR T r) (hr : ∀ r ∈ rs, OkR T m r) : ∀ i, m ≤ i + 1 → i < T.length → Qt.argsMore T rs lv i ≠ .none := by
 induction rs with
 | nil => intro i _ _; exact Q0z _ _
 | cons r rs ih =>
  intro i hm hi
  exact Q02 (Q4c _ _) fun _ j h => by
   obtain ⟨h1, h2⟩ := Q2m hl _ hi _ _ h
   exact Q02 (hr r (List.mem_cons_self ..) _ _ (by omega) h2) fun _ k hk => by
    obtain ⟨h3, h4⟩ := ho r (List.mem_cons_self ..) _ _ h2 _ _ hk
    exact Q02 (ih (fun r h => ho r (List.mem_cons_of_mem _ h)) (fun r h => hr r (List.mem_cons_of_mem _ h)) _ (by omega) h4) fun _ _ _ => Q0z _ _
theorem Qpv {rs : List Rd} (hl : (tk T (T.length - 1)).kind = 3) (ho : ∀ r ∈ rs, OnR T r) (hr : ∀ r ∈ rs, OkR T m r) (hm : m ≤ i) (hi : i < T.length) : Qt T rs lv i ≠ .none := by
 cases rs with
 | nil => exact Q0z _ _
 | cons r rs =>
  exact Q02 (hr r (List.mem_cons_self ..) _ _ hm hi) fun _ k hk => by
   obtain ⟨h3, h4⟩ := ho r (List.mem_cons_self ..) _ _ hi _ _ hk
   exact Q02 (Qie hl (fun r h => ho r (List.mem_cons_of_mem _ h)) (fun r h => hr r (List.mem_cons_of_mem _ h)) _ (by omega) h4) fun _ _ _ => Q0z _ _
theorem Qi7 {rs : List Rd} {w : Tok} (hl : (tk T (T.length - 1)).kind = 3) (ho : ∀ r ∈ rs, OnR T r) (hr : ∀ r ∈ rs, OkR T m r) (hm : m ≤ i + 1) (hi : i < T.length) : arguments T w rs lv i ≠ .none :=
 Q02 (Q4c _ _) fun _ j h => by
  obtain ⟨h1, h2⟩ := Q2m hl _ hi _ _ h
  split
  ·exact Q8f _ _
  ·exact Q02 (Qpv hl ho hr (by omega) h2) fun _ _ _ => Q02 (Q4c _ _) fun _ _ _ => Q0z _ _
theorem Qsv (hl : (tk T (T.length - 1)).kind = 3) (g : Nat) : ∀ xs i, i < T.length → T.length < g + i → Q1q T g xs i ≠ .none := by
 induction g with
 | zero => intro x i h1 h2; omega
 | succ g ih =>
  intro x i hi hg
  unfold Q1q
  split
  ·rename_i h
   obtain ⟨e, h2⟩ := Q04 hl hi (Qc h)
   rw [e]
   exact Q02 (Q76 _) fun y j hy => by
    obtain ⟨h3, h4⟩ := Q29 hl h2 _ _ hy
    exact ih _ _ h4 (by omega)
  ·exact Q0z _ _
theorem Qks (hl : (tk T (T.length - 1)).kind = 3) (hi : i < T.length) : setR T i ≠ .none := by
 unfold setR
 split
 ·exact Q0z _ _
 ·exact Q02 (Q4c _ _) fun _ j h => by
   obtain ⟨h1, h2⟩ := Q2m hl _ hi _ _ h
   split
   ·exact Q0z _ _
   ·exact Q02 (Q76 _) fun _ k hk => by
     obtain ⟨h3, h4⟩ := Q29 hl h2 _ _ hk
     exact Q02 (Qsv hl _ _ _ h4 (by omega)) fun _ _ _ => Q02 (Q4c _ _) fun _ _ _ => Q0z _ _
def rank : NT → Nat
 | .cond => 5 | .conj => 4 | .neg => 3 | .sum => 2 | .unit => 1
 | .scheme => 4 | .term => 3 | .factor => 2 | .atom => 1
 | .formula => 4 | .disj => 3 | .meet => 2 | .lit => 1
theorem Qfe {r : Rd} (hl : (tk T (T.length - 1)).kind = 3) (hr : OkR T m r) (hm : m ≤ i + 1) (hi : i < T.length) (hk : (tk T i).kind ≠ 3) : notR T r lv i ≠ .none := by
 obtain ⟨e, h2⟩ := Q04 hl hi hk
 unfold notR
 rw [e]
 exact Q02 (Q7m hr hm h2) fun _ _ _ => Q0z _ _
theorem Qkn (hl : (tk T (T.length - 1)).kind = 3) (f : Nat) : ∀ nt lv i, i < T.length → 16 * (T.length - i) + rank nt ≤ f → rd res T f nt lv i ≠ .none := by
 induction f with
 | zero => intro nt lv i _ h; cases nt <;> simp [rank] at h
 | succ f ih =>
  intro nt lv i hi hf
  have on : ∀ nt, OnR T (rd res T f nt) := Q4a hl f
  have hs : ∀ nt', rank nt' < rank nt → OkR T i (rd res T f nt') := fun nt' h lv j h1 h2 => ih nt' lv j h2 (by omega)
  have hn : ∀ nt', OkR T (i + 1) (rd res T f nt') := fun nt' lv j h1 h2 => ih nt' lv j h2 (by
   have : rank nt' ≤ 5 := by cases nt' <;> decide
   omega)
  have num : OkR T (i + 1) (fun _ => number T) := fun _ _ _ _ => Q76 _
  have set : OkR T (i + 1) (fun _ => setR T) := fun _ _ _ h => Qks hl h
  have onum : OnR T (fun _ => number T) := fun _ _ h => Q29 hl h
  have oset : OnR T (fun _ => setR T) := fun _ _ h => Q9d hl h
  have hargs : ∀ ws, isW T ws i = true → ∀ rds : List Rd, (∀ r ∈ rds, OnR T r ∧ OkR T (i + 1) r) → arguments T (tk T i) rds lv (nx T i) ≠ .none := fun ws h rds hr => by
   obtain ⟨e, h2⟩ := Q04 hl hi (Qc h)
   rw [e]
   exact Qi7 hl (fun r h => (hr r h).1) (fun r h => (hr r h).2) (by omega) h2
  have one : ∀ {r : Rd}, OnR T r ∧ OkR T (i + 1) r → ∀ x ∈ [r], OnR T x ∧ OkR T (i + 1) x := fun h x hx => by rw [List.mem_singleton.1 hx]; exact h
  have two : ∀ {r r' : Rd}, OnR T r ∧ OkR T (i + 1) r → OnR T r' ∧ OkR T (i + 1) r' → ∀ x ∈ [r, r'], OnR T x ∧ OkR T (i + 1) x := fun h h' x hx => by
   simp only [List.mem_cons, List.not_mem_nil, or_false] at hx
   rcases hx with rfl | rfl
   ·exact h
   ·exact h'
  cases nt with
  | cond => exact Q55 hl (on _) (hs _ (by decide)) _ _ (Nat.le_refl _) hi
  | conj => exact Q55 hl (on _) (hs _ (by decide)) _ _ (Nat.le_refl _) hi
  | sum => exact Q55 hl (on _) (hs _ (by decide)) _ _ (Nat.le_refl _) hi
  | scheme => exact Q55 hl (on _) (hs _ (by decide)) _ _ (Nat.le_refl _) hi
  | term => exact Q55 hl (on _) (hs _ (by decide)) _ _ (Nat.le_refl _) hi
  | disj => exact Q55 hl (on _) (hs _ (by decide)) _ _ (Nat.le_refl _) hi
  | meet => exact Q55 hl (on _) (hs _ (by decide)) _ _ (Nat.le_refl _) hi
  | neg =>
   show (if _ then _ else if _ then _ else _ : Out Syn) ≠ .none
   split
   ·rename_i h; exact Qfe hl (hn _) (Nat.le_refl _) hi (Qc h)
   ·split
    ·rename_i h
     obtain ⟨e, h2⟩ := Q04 hl hi (Qc h)
     rw [e]
     exact Q02 (Q8k _) fun _ j hj => Q02 (Q4c _ _) fun _ k hk => by
      obtain ⟨h3, h4⟩ := Q67 hl h2 _ _ hj
      obtain ⟨h5, h6⟩ := Q2m hl _ h4 _ _ hk
      exact Q02 (Q7m (hn _) (by omega) h6) fun _ _ _ => Q0z _ _
    ·exact Q02 (hs .sum (by decide) _ _ (Nat.le_refl _) hi) fun x j hx => by
      obtain ⟨h3, h4⟩ := on .sum _ _ hi _ _ hx
      split
      ·rename_i h
       obtain ⟨e, h2⟩ := Q04 hl h4 (Qc h)
       rw [e]
       exact Q02 (hn .sum _ _ (by omega) h2) fun _ _ _ => Q0z _ _
      ·exact Q0z _ _
  | unit =>
   show (if _ then _ else if _ then _ else if _ then _ else if _ then _ else if _ then _ else _ : Out Syn) ≠ .none
   split
   ·exact Q76 _
   ·split
    ·rename_i h; exact hargs _ h _ (one ⟨on _, hn _⟩)
    ·split
     ·rename_i h; exact hargs _ h _ (two ⟨on _, hn _⟩ ⟨on _, hn _⟩)
     ·split
      ·rename_i h
       obtain ⟨e, h2⟩ := Q04 hl hi (Qc h)
       rw [e]
       exact Q02 (Q8k _) fun _ j hj => by
        obtain ⟨h3, h4⟩ := Q67 hl h2 _ _ hj
        exact Q02 (Q9e hl (hn _) (by omega) h4) fun _ _ _ => Q0z _ _
      ·split
       ·exact Q9e hl (hn _) (Nat.le_refl _) hi
       ·exact Q8k _
  | factor =>
   exact Q02 (hs .atom (by decide) _ _ (Nat.le_refl _) hi) fun x j hx => by
    obtain ⟨h3, h4⟩ := on .atom _ _ hi _ _ hx
    split
    ·rename_i h
     obtain ⟨e, h2⟩ := Q04 hl h4 (Qc h)
     rw [e]
     exact Q02 (Q76 _) fun _ k hk => by
      obtain ⟨h5, h6⟩ := Q29 hl h2 _ _ hk
      exact Q02 (Q7m (hn .factor) (by omega) h6) fun _ _ _ => Q0z _ _
    ·exact Q0z _ _
  | atom =>
   show (if _ then _ else if _ then _ else if _ then _ else if _ then _ else _ : Out Syn) ≠ .none
   split
   ·rename_i h; exact hargs _ h _ (one ⟨onum, num⟩)
   ·split
    ·exact Q0z _ _
    ·split
     ·rename_i h; exact hargs _ h _ (one ⟨on _, hn _⟩)
     ·split
      ·exact Q9e hl (hn _) (Nat.le_refl _) hi
      ·exact Q8k _
  | formula =>
   exact Q02 (hs .disj (by decide) _ _ (Nat.le_refl _) hi) fun x j hx => by
    obtain ⟨h3, h4⟩ := on .disj _ _ hi _ _ hx
    split
    ·rename_i h
     obtain ⟨e, h2⟩ := Q04 hl h4 (Qc h)
     rw [e]
     exact Q02 (Q7m (hn .formula) (by omega) h2) fun _ _ _ => Q0z _ _
    ·exact Q0z _ _
  | lit =>
   show (if _ then _ else if _ then _ else if _ then _ else if _ then _ else if _ then _ else if _ then _ else if _ then _ else if _ then _ else _ : Out Syn) ≠ .none
   split
   ·rename_i h; exact Qfe hl (hn _) (Nat.le_refl _) hi (Qc h)
   ·split
    ·exact Q0z _ _
    ·split
     ·exact Q9e hl (hn _) (Nat.le_refl _) hi
     ·split
      ·rename_i h; exact hargs _ h _ (two ⟨onum, num⟩ ⟨onum, num⟩)
      ·split
       ·rename_i h; exact hargs _ h _ (one ⟨onum, num⟩)
       ·split
        ·rename_i h; exact hargs _ h _ (two ⟨onum, num⟩ ⟨on _, hn _⟩)
        ·split
         ·rename_i h; exact hargs _ h _ (two ⟨oset, set⟩ ⟨on _, hn _⟩)
         ·split
          ·rename_i h; exact hargs _ h _ (one ⟨on _, hn _⟩)
          ·exact Q8f _ _
end
end
section
structure St where
 i : Nat
 lv : Nat
 er : Int
 ps : Int
section
variable (res : List UInt8 → Bool) (T : List Tok)
def Q8 (s : St) : St := if s.er = 0 ∧ (tk T s.i).kind ≠ 3 then ⟨s.i + 1, s.lv, s.er, s.ps⟩ else s
def Qq (e : Int) (s : St) : St := if s.er = 0 then ⟨s.i, s.lv, e, (tk T s.i).pos⟩ else s
def Q7 (w : List UInt8) (s : St) : St := Q8 T (if isW T [w] s.i then s else Qq T 4 s)
def Q0y (i : Nat) : Bool := decide ((tk T i).kind = 0) && !res (tk T i).text
def Q14 (s : St) : Syn × St := (.mk 8 (tk T s.i).text 0 (tk T s.i).pos [], Q8 T (if Q0y res T s.i then s else Qq T 4 s))
def Q4j : Int → List UInt8 → Int
 | n, [] => n
 | n, c :: r => if c.toNat < 48 ∨ 57 < c.toNat ∨ 1048576 < n then 0 else Q4j (10 * n + ((c.toNat : Int) - 48)) r
def mVal (l : List UInt8) : Int := Q4j 0 l
def Qd (s : St) : Syn × St := (.mk 9 [] (mVal (tk T s.i).text) (tk T s.i).pos [], Q8 T (if (tk T s.i).kind = 1 then s else Qq T 4 s))
def mUp (s : St) : St := ⟨s.i, s.lv + 1, s.er, s.ps⟩
def Qo (s : St) : St := if 128 < s.lv + 1 then Qq T 12 (mUp s) else mUp s
def mPop (s : St) : St := ⟨s.i, s.lv - 1, s.er, s.ps⟩
abbrev MRd := St → Option (Syn × St)
def Q3d (r : MRd) (ops : List (List UInt8)) : Nat → Syn → St → Option (Syn × St)
 | 0, _, _ => none
 | g + 1, x, s => if s.er = 0 ∧ isW T ops s.i = true then (r (Q8 T s)).bind fun p => Q3d r ops g (binary (tk T s.i).text 0 x p.1) p.2 else some (x, s)
def Q2l (r : MRd) (ops : List (List UInt8)) : MRd := fun s => if s.er ≠ 0 then some (Q2r, s) else (r s).bind fun p => Q3d T r ops (T.length + 2) p.1 p.2
def Q2v : Nat → List Syn → St → Option (List Syn × St)
 | 0, _, _ => none
 | g + 1, xs, s => if s.er = 0 ∧ isW T [[44]] s.i = true then Q2v g (xs ++ [(Qd T (Q8 T s)).1]) (Qd T (Q8 T s)).2 else some (xs, s)
def mSet : MRd := fun s =>
 if isW T [[101, 118, 101, 114, 121, 111, 110, 101]] s.i then some (.mk 14 [101, 118, 101, 114, 121, 111, 110, 101] 0 (tk T s.i).pos [], Q8 T s)
 else if (Q7 T [123] s).er = 0 ∧ isW T [[125]] (Q7 T [123] s).i = false then
  (Q2v T (T.length + 2) [(Qd T (Q7 T [123] s)).1] (Qd T (Q7 T [123] s)).2).bind fun p => some (.mk 14 [] 0 (tk T s.i).pos p.1, Q7 T [125] p.2)
 else some (.mk 14 [] 0 (tk T s.i).pos [], Q7 T [125] (Q7 T [123] s))
def Q06 (fo : MRd) (w : List UInt8) : St → Option (List Syn × St) := fun s =>
 if w = [105, 110, 112, 117, 116] ∨ w = [104, 101, 97, 114, 100] ∨ w = [100, 101, 99, 105, 100, 101, 100] then
  some ([(Qd T s).1, (Qd T (Q7 T [44] (Qd T s).2)).1], (Qd T (Q7 T [44] (Qd T s).2)).2)
 else if w = [103, 105, 118, 101, 110] ∨ w = [102, 97, 117, 108, 116, 121] ∨ w = [97, 116] then some ([(Qd T s).1], (Qd T s).2)
 else if w = [75] then (fo (Q7 T [44] (Qd T s).2)).bind fun p => some ([(Qd T s).1, p.1], p.2)
 else if w = [69] ∨ w = [68] ∨ w = [67] then (mSet T s).bind fun q => (fo (Q7 T [44] q.2)).bind fun p => some ([q.1, p.1], p.2)
 else (fo s).bind fun p => some ([p.1], p.2)
def mrd : Nat → NT → MRd
 | 0, _ => fun _ => none
 | f + 1, .cond => Q2l T (mrd f .conj) [kOr]
 | f + 1, .conj => Q2l T (mrd f .neg) [kAnd]
 | f + 1, .neg => fun s =>
  if s.er ≠ 0 then some (Q2r, s)
  else if isW T [kNot] s.i then (mrd f .neg (Qo T (Q8 T s))).bind fun p => some (.mk 12 [] 0 (tk T s.i).pos [p.1], mPop p.2)
  else if isW T [[97, 108, 108]] s.i = true ∨ isW T [[115, 111, 109, 101]] s.i = true then
   (mrd f .cond (Qo T (Q7 T [58] (Q14 res T (Q8 T s)).2))).bind fun p => some (.mk 13 (tk T s.i).text 0 (tk T s.i).pos [(Q14 res T (Q8 T s)).1, p.1], mPop p.2)
  else (mrd f .sum s).bind fun p =>
   if p.2.er = 0 ∧ isW T [[61], [33, 61], [60], [60, 61]] p.2.i = true then (mrd f .sum (Q8 T p.2)).bind fun q => some (binary (tk T p.2.i).text 0 p.1 q.1, q.2)
   else some p
 | f + 1, .sum => Q2l T (mrd f .unit) [[43], [45]]
 | f + 1, .unit => fun s =>
  if s.er ≠ 0 then some (Q2r, s)
  else if (tk T s.i).kind = 1 then some (Qd T s)
  else if Q0y res T s.i then some (Q14 res T s)
  else if isW T [[40]] s.i then (mrd f .cond (Qo T (Q8 T s))).bind fun p => some (p.1, Q7 T [41] (mPop p.2))
  else if isW T [[105, 110]] s.i = true ∨ isW T [[111, 117, 116]] s.i = true then
   (mrd f .sum (Qo T (Q7 T [40] (Q8 T s)))).bind fun p => some (.mk 10 (tk T s.i).text 0 (tk T s.i).pos [p.1], Q7 T [41] (mPop p.2))
  else if isW T [[104, 101, 97, 114, 115]] s.i then
   (mrd f .sum (Qo T (Q7 T [40] (Q8 T s)))).bind fun p => (mrd f .sum (Q7 T [44] p.2)).bind fun q => some (.mk 10 (tk T s.i).text 0 (tk T s.i).pos [p.1, q.1], Q7 T [41] (mPop q.2))
  else if isW T [[99, 111, 117, 110, 116]] s.i then
   (mrd f .cond (Qo T (Q7 T [40] (Q14 res T (Q8 T s)).2))).bind fun p => some (.mk 13 (tk T s.i).text 0 (tk T s.i).pos [(Q14 res T (Q8 T s)).1, p.1], Q7 T [41] (mPop p.2))
  else some (.mk 10 (tk T s.i).text 0 (tk T s.i).pos [], Qq T 4 s)
 | f + 1, .scheme => Q2l T (mrd f .term) [kOr]
 | f + 1, .term => Q2l T (mrd f .factor) [kAnd]
 | f + 1, .factor => fun s =>
  if s.er ≠ 0 then some (Q2r, s)
  else (mrd f .atom s).bind fun p =>
   if p.2.er = 0 ∧ isW T [[116, 104, 101, 110]] p.2.i = true then
    (mrd f .factor (Qo T (Qd T (Q8 T p.2)).2)).bind fun q => some (binary [116, 104, 101, 110] (Qd T (Q8 T p.2)).1.num p.1 q.1, mPop q.2)
   else some p
 | f + 1, .atom => fun s =>
  if Q0y res T s.i then some (Q14 res T s)
  else if isW T [[99, 114, 97, 115, 104], [115, 101, 110, 100], [114, 101, 99, 101, 105, 118, 101], [111, 109, 105, 116], [112, 97, 114, 116, 105, 116, 105, 111, 110]] s.i then
   some (.mk 10 (tk T s.i).text 0 (tk T s.i).pos [(Qd T (Qo T (Q7 T [40] (Q8 T s)))).1], Q7 T [41] (mPop (Qd T (Qo T (Q7 T [40] (Q8 T s)))).2))
  else if isW T [[115, 110, 97, 112, 115, 104, 111, 116]] s.i then some (.mk 10 (tk T s.i).text 0 (tk T s.i).pos [], Q8 T s)
  else if isW T [[103, 114, 97, 112, 104, 115]] s.i then
   (mrd f .cond (Qo T (Q7 T [40] (Q8 T s)))).bind fun p => some (.mk 10 (tk T s.i).text 0 (tk T s.i).pos [p.1], Q7 T [41] (mPop p.2))
  else if isW T [[40]] s.i then (mrd f .scheme (Qo T (Q8 T s))).bind fun p => some (p.1, Q7 T [41] (mPop p.2))
  else some (.mk 10 (tk T s.i).text 0 (tk T s.i).pos [], Qq T 4 s)
 | f + 1, .formula => fun s => (mrd f .disj s).bind fun p =>
  if p.2.er = 0 ∧ isW T [[117, 110, 116, 105, 108]] p.2.i = true then
   (mrd f .formula (Qo T (Q8 T p.2))).bind fun q => some (binary [117, 110, 116, 105, 108] 0 p.1 q.1, mPop q.2)
  else some p
 | f + 1, .disj => Q2l T (mrd f .meet) [kOr]
 | f + 1, .meet => Q2l T (mrd f .lit) [kAnd]
 | f + 1, .lit => fun s =>
  if s.er ≠ 0 then some (Q2r, s)
  else if isW T [kNot] s.i then (mrd f .lit (Qo T (Q8 T s))).bind fun p => some (.mk 12 [] 0 (tk T s.i).pos [p.1], mPop p.2)
  else if isW T [[116, 114, 117, 101]] s.i then some (.mk 10 (tk T s.i).text 0 (tk T s.i).pos [], Q8 T s)
  else if isW T [[40]] s.i then (mrd f .formula (Qo T (Q8 T s))).bind fun p => some (p.1, Q7 T [41] (mPop p.2))
  else if isW T [[105, 110, 112, 117, 116], [104, 101, 97, 114, 100], [100, 101, 99, 105, 100, 101, 100], [103, 105, 118, 101, 110], [102, 97, 117, 108, 116, 121], [97, 116], [75], [69], [68], [67], [110, 101, 120, 116], [97, 108, 119, 97, 121, 115], [101, 118, 101, 110, 116, 117, 97, 108, 108, 121]] s.i then
   (Q06 T (mrd f .formula) (tk T s.i).text (Qo T (Q7 T [40] (Q8 T s)))).bind fun p => some (.mk 10 (tk T s.i).text 0 (tk T s.i).pos p.1, Q7 T [41] (mPop p.2))
  else some (.mk 10 (tk T s.i).text 0 (tk T s.i).pos [], Qq T 4 s)
def Q7g : St := ⟨0, 0, 0, 0⟩
def mEnd (s : St) : St := if (tk T s.i).kind = 3 then s else Qq T 4 s
def Q79 (r : MRd) : Option (Syn × St) := (r Q7g).bind fun p => some (p.1, mEnd T p.2)
end
structure TokOk (T : List Tok) : Prop where
 last : (tk T (T.length - 1)).kind = 3
 num : ∀ i, i < T.length → (tk T i).kind = 1 → mVal (tk T i).text = (dv 0 (tk T i).text : Nat)
 par : ∀ i, (tk T i).kind = 0 → (tk T i).text ≠ [40]
end
section
section
variable {res : List UInt8 → Bool} {T : List Tok} {lv lv' i f : Nat} {a : Int}
theorem Q5l {r : Rd} (hr : r 0 0 ≠ .none) : whole T r ≠ .none := by
 unfold whole
 refine Q02 hr fun _ _ _ => ?_
 split
 ·exact Q0z _ _
 ·exact Q8f _ _
end
end
theorem Qet : ∀ (l : List UInt8) (n : Nat), (∀ c ∈ l, Q9 c.toNat = true) → dv n l ≤ 1048576 → Q4j n l = (dv n l : Nat)
 | [], _, _, _ => rfl
 | c :: r, n, hd, h => by
  have hc := hd c (by simp)
  simp only [Q9, Bool.and_eq_true, decide_eq_true_eq] at hc
  rw [Q4k] at h ⊢
  have h1 := Q87 r (10 * n + (c.toNat - 48))
  have h2 : 0 < 10 ^ r.length := Nat.pow_pos (by omega)
  have h3 : 10 * n + (c.toNat - 48) ≤ (10 * n + (c.toNat - 48)) * 10 ^ r.length := Nat.le_mul_of_pos_right _ h2
  rw [Q4j, if_neg (by omega)]
  have e : (10 * (n : Int) + ((c.toNat : Int) - 48)) = ((10 * n + (c.toNat - 48) : Nat) : Int) := by omega
  rw [e]
  exact Qet r _ (fun c h => hd c (by simp [h])) h
theorem Qig {l : List UInt8} {n : Nat} (h : tok l = .ok (0, n)) : l.take n ≠ [40] := by
 unfold tok at h
 by_cases h1 : Q1 Q5 l = 0
 ·rw [if_pos h1] at h; split at h <;> simp at h
 rw [if_neg h1] at h
 by_cases h2 : Q1 Q0a l = 0
 ·rw [if_pos h2] at h
  split at h
  ·simp at h
  ·split at h <;> simp at h
 ·intro e
  cases l with
  | nil => simp at e
  | cons c r =>
   cases n with
   | zero => simp at e
   | succ n =>
    rw [List.take_succ_cons] at e
    have hc : c = 40 := (List.cons.inj e).1
    subst hc
    exact h2 (by simp [Q1, Q0a])
theorem Qla (f : Nat) : ∀ (p : Nat) (l : List UInt8) (ts : List Tok), Qz f p l = .ok ts → ∀ t ∈ ts, t.kind = 0 → t.text ≠ [40] := by
 induction f with
 | zero => intro p l ts h; simp [Qz] at h; subst h; simp
 | succ f ih =>
  intro p l ts h
  simp only [Qz] at h
  split at h
  ·simp only [Except.ok.injEq] at h; subst h
   intro t ht
   rw [List.mem_singleton.1 ht]
   simp
  ·rename_i c r hd
   split at h
   ·simp at h
   ·rename_i kind n ht
    split at h
    ·simp at h
    ·rename_i us hu
     simp only [Except.ok.injEq] at h
     subst h
     intro t hm
     rcases List.mem_cons.1 hm with rfl | hm
     ·intro hk
      have hk1 : kind = 0 := by simp only at hk; omega
      subst hk1
      exact Qig ht
     ·exact ih _ _ _ hu t hm
theorem Qnl (f : Nat) : ∀ (p : Nat) (l : List UInt8) (ts : List Tok), Qz f p l = .ok ts → ts.length ≤ l.length + 1 := by
 induction f with
 | zero => intro p l ts h; simp [Qz] at h; subst h; simp
 | succ f ih =>
  intro p l ts h
  simp only [Qz] at h
  split at h
  ·simp at h; subst h; simp
  ·rename_i c r hd
   have hlen : (c :: r).length = l.length - skip false l := by rw [← hd]; simp
   split at h
   ·simp at h
   ·rename_i kind n ht
    have hp := Q31 ht
    split at h
    ·simp at h
    ·rename_i us hus
     have := ih _ _ _ hus
     simp at h; subst h
     simp only [List.length_drop] at this
     simp only [List.length_cons] at *
     omega
structure Scanned (s : List UInt8) (T : List Tok) : Prop where
 ok : TokOk T
 pos : 0 < T.length
 len : T.length ≤ s.length + 1
 num : ∀ t ∈ T, t.kind = 1 → t.text ≠ [] ∧ (∀ c ∈ t.text, Q9 c.toNat = true) ∧ dv 0 t.text ≤ 1048576
 txt : ∀ t ∈ T, t.text.length ≤ s.length
theorem Qed {T : List Tok} {i : Nat} (h : i < T.length) : tk T i ∈ T := by
 unfold tk
 rw [List.getD_eq_getElem?_getD, List.getElem?_eq_getElem h]
 exact List.getElem_mem h
theorem scanned {s : List UInt8} {T : List Tok} (h : scan s = .ok T) : Scanned s T := by
 unfold scan at h
 split at h
 ·simp at h
 ·have h1 := Qit _ _ _ _ h
  obtain ⟨a, t, rfl, hk⟩ := Qlx _ _ _ _ (by omega) h
  have hp : 0 < (a ++ [t]).length := by simp
  refine ⟨⟨?_, fun i hi hk => ?_, fun i hk => ?_⟩, hp, Qnl _ _ _ _ h, fun t ht => (h1 t ht).1, fun t ht => (h1 t ht).2⟩
  ·have : tk (a ++ [t]) ((a ++ [t]).length - 1) = t := by
    unfold tk
    simp [List.getD_eq_getElem?_getD]
   rw [this]; exact hk
  ·obtain ⟨n0, n1, n2⟩ := (h1 _ (Qed hi)).1 hk
   exact Qet _ 0 n1 n2
  ·rcases Nat.lt_or_ge i (a ++ [t]).length with hi | hi
   ·exact Qla _ _ _ _ h _ (Qed hi) hk
   ·exfalso
    have : tk (a ++ [t]) i = Qa7 := by unfold tk; rw [List.getD_eq_getElem?_getD, List.getElem?_eq_none hi]; rfl
    rw [this] at hk; revert hk; decide
section
inductive Small : Syn → Prop
 | mk {kd : Int} {tx : List UInt8} {n a : Int} {k : List Syn} (h : k.length ≤ 1000000) (hk : ∀ z ∈ k, Small z) : Small (.mk kd tx n a k)
def AllO {α : Type} (P : α → Prop) (o : Out α) : Prop := match o with | .ok a _ => P a | _ => True
theorem AllO.bind {α β : Type} {P : α → Prop} {Q : β → Prop} {o : Out α} {f : α → Nat → Out β} (h : AllO P o) (hf : ∀ a j, P a → AllO Q (f a j)) : AllO Q (o.bind f) := by
 cases o with
 | none => trivial
 | err p e => trivial
 | ok a j => exact hf a j h
section
variable {res : List UInt8 → Bool} {T : List Tok} {lv i : Nat}
end
end
section
section
variable {P : Int → Int → Prop}
end
end
section
structure AlkT (T U : List Tok) : Prop where
 len : T.length = U.length
 kind : ∀ i, (tk T i).kind = (tk U i).kind
 text : ∀ i, (tk T i).text = (tk U i).text
abbrev Any : Int → Int → Prop := fun _ _ => True
def TwO {α β : Type} (R : α → β → Prop) (o : Out α) (u : Out β) : Prop :=
 match o, u with | .none, .none => True | .err _ e, .err _ f => e = f | .ok a i, .ok b j => i = j ∧ R a b | _, _ => False
theorem TwO.bind {α β γ δ : Type} {R : α → β → Prop} {Q : γ → δ → Prop} {o : Out α} {u : Out β} {f : α → Nat → Out γ} {g : β → Nat → Out δ} (h : TwO R o u) (hf : ∀ a b i, R a b → TwO Q (f a i) (g b i)) : TwO Q (o.bind f) (u.bind g) := by
 cases o <;> cases u <;> simp only [TwO] at h
 ·exact h
 ·exact h
 ·obtain ⟨rfl, h⟩ := h
  exact hf _ _ _ h
abbrev TwS (o u : Out Syn) : Prop := TwO (Twin Any) o u
section
variable {T U : List Tok} {res : List UInt8 → Bool} {lv i : Nat}
theorem AlkT.isW (h : AlkT T U) (ws : List (List UInt8)) (i : Nat) : isW T ws i = Proofs.YtplbfmcgddnkeaaGreatDoor.isW U ws i := by unfold Proofs.YtplbfmcgddnkeaaGreatDoor.isW; rw [h.kind, h.text]
theorem AlkT.nx (h : AlkT T U) (i : Nat) : nx T i = Proofs.YtplbfmcgddnkeaaGreatDoor.nx U i := by unfold Proofs.YtplbfmcgddnkeaaGreatDoor.nx; rw [h.len]
def KR (r q : Rd) : Prop := ∀ lv i, TwS (r lv i) (q lv i)
inductive KRs : List Rd → List Rd → Prop
 | nil : KRs [] []
 | cons {r q : Rd} {rs qs : List Rd} (h : KR r q) (hr : KRs rs qs) : KRs (r :: rs) (q :: qs)
end
end
section
def Q92 : List (List (List UInt8)) := [[kOr], [kAnd], [[43], [45]], [[61], [33, 61], [60], [60, 61]], [[116, 104, 101, 110]], [[117, 110, 116, 105, 108]], [[44]]]
structure SubT (T U : List Tok) (m d : Nat) : Prop where
 len : T.length = m + 1
 lst : (tk T m).kind = 3
 inn : ∀ i, i < m → (tk T i).kind ≠ 3
 ulen : m + d < U.length
 kind : ∀ i, i < m → (tk T i).kind = (tk U (i + d)).kind
 text : ∀ i, i < m → (tk T i).text = (tk U (i + d)).text
 stop : ∀ ws ∈ Q92, isW U ws (m + d) = false
def SimO {α β : Type} (m d dl : Nat) (R : α → β → Prop) (o : Out α) (u : Out β) : Prop :=
 match o with
 | .ok a j => match u with | .ok b l => j ≤ m ∧ l = j + d ∧ R a b | .err _ e => e = 12 ∧ 0 < dl | .none => False
 | _ => True
section
variable {T U : List Tok} {res : List UInt8 → Bool} {lv i m d dl : Nat}
theorem SimO.bind {α β γ δ : Type} {R : α → β → Prop} {Q : γ → δ → Prop} {o : Out α} {u : Out β} {f : α → Nat → Out γ} {g : β → Nat → Out δ} (h : SimO m d dl R o u) (hf : ∀ a b j, j ≤ m → R a b → SimO m d dl Q (f a j) (g b (j + d))) : SimO m d dl Q (o.bind f) (u.bind g) := by
 cases o with
 | none => trivial
 | err p e => trivial
 | ok a j =>
  cases u with
  | none => exact h.elim
  | err p e =>
   show SimO m d dl Q (f a j) (.err p e)
   cases f a j with
   | none => trivial
   | err p e => trivial
   | ok b l => exact h
  | ok b l =>
   obtain ⟨h1, rfl, h2⟩ := h
   exact hf _ _ _ h1 h2
theorem SubT.last (h : SubT T U m d) : (tk T (T.length - 1)).kind = 3 := by rw [h.len, Nat.add_sub_cancel]; exact h.lst
theorem SubT.isN (h : SubT T U m d) (ws : List (List UInt8)) : isW T ws m = false := by unfold isW; rw [h.lst]; rfl
theorem SubT.lt (h : SubT T U m d) {ws : List (List UInt8)} (hi : i ≤ m) (hw : isW T ws i = true) : i < m := by
 rcases Nat.lt_or_ge i m with hl | hl
 ·exact hl
 ·obtain rfl : i = m := by omega
  rw [h.isN] at hw; cases hw
theorem SubT.le (h : SubT T U m d) : T.length ≤ U.length := by have := h.len; have := h.ulen; omega
def BR (m d dl : Nat) (r q : Rd) : Prop := ∀ lv i, i ≤ m → SimO m d dl (Twin Any) (r lv i) (q (lv + dl) (i + d))
inductive BRs (m d dl : Nat) : List Rd → List Rd → Prop
 | nil : BRs m d dl [] []
 | cons {r q : Rd} {rs qs : List Rd} (h : BR m d dl r q) (hr : BRs m d dl rs qs) : BRs m d dl (r :: rs) (q :: qs)
end
end
abbrev KT := Int × List UInt8
def kts (ts : List Tok) : List KT := ts.map fun t => (t.kind, t.text)
abbrev Q2e : KT := (3, [])
def Lx (l : List UInt8) (K : List KT) : Prop := ∀ p, ∃ ts, Q12 p l = .ok ts ∧ kts ts = K
theorem Qsa {l : List UInt8} {K : List KT} (h : Lx l K) (hl : l.length ≤ 65536) : ∃ T, scan l = .ok T ∧ kts T = K := by
 obtain ⟨T, h1, h2⟩ := h 0
 exact ⟨T, by rw [Qbm hl]; exact h1, h2⟩
theorem Qav : Lx [] [Q2e] := fun p => ⟨_, Qd2 p, rfl⟩
theorem Qdd {x y : List UInt8} {k : Nat} {K : List KT} (ht : tok x = .ok (k, x.length)) (hf : fits x y) (h : Lx y K) : Lx (x ++ y) (((k : Int), x) :: K) := by
 intro p
 have hne := (tokClass ht).1
 have hs := Q8s (p := p) (Qsl ht y) (by simp [hne]) (Qm8 ht hf)
 rw [List.take_append_of_le_length (Nat.le_refl _), List.take_length, List.drop_append_of_le_length (Nat.le_refl _), List.drop_length, List.nil_append] at hs
 obtain ⟨ms, h1, h2⟩ := h (p + x.length)
 rw [h1] at hs
 exact ⟨_, hs, by simp only [List.singleton_append, kts, List.map_cons]; rw [← h2]; rfl⟩
theorem Qmx {x y : List UInt8} {K : List KT} (hs : skip false (x ++ y) = x.length + skip false y) (h : Lx y K) : Lx (x ++ y) K := by
 intro p
 obtain ⟨ms, h1, h2⟩ := h (p + x.length)
 refine ⟨ms, ?_, h2⟩
 rw [Q4r, hs]
 rw [Q4r (p + x.length)] at h1
 rw [List.drop_append, List.drop_of_length_le (by omega), List.nil_append, show x.length + skip false y - x.length = skip false y by omega, ← Nat.add_assoc]
 exact h1
theorem Qsn {b : UInt8} {y : List UInt8} {K : List KT} (hb : Q01 b.toNat = true) (h : Lx y K) : Lx (b :: y) K :=
 Qmx (x := [b]) (by
  have h35 : ¬ b.toNat = 35 := by intro e; rw [e] at hb; revert hb; decide
  rw [List.singleton_append, Qf3, if_neg h35, if_pos hb, List.length_singleton, Nat.add_comm]) h
theorem Qgc {b : UInt8} {y : List UInt8} {K : List KT} (hb : b = 40 ∨ b = 41 ∨ b = 59 ∨ b = 44 ∨ b = 58 ∨ b = 123 ∨ b = 125) (h : Lx y K) : Lx (b :: y) ((2, [b]) :: K) :=
 Qdd (x := [b]) (k := 2) (by rcases hb with rfl | rfl | rfl | rfl | rfl | rfl | rfl <;> rfl) (fun c hc => by
  rcases hb with rfl | rfl | rfl | rfl | rfl | rfl | rfl <;> exact ⟨fun h => absurd h (by decide), fun h => absurd h.1 (by decide)⟩) h
theorem Qck (T : List Tok) (i : Nat) : (tk T i).kind = ((kts T).getD i Q2e).1 := by
 unfold tk kts
 rw [List.getD_eq_getElem?_getD, List.getD_eq_getElem?_getD, List.getElem?_map]
 cases T[i]? <;> rfl
theorem Qga (T : List Tok) (i : Nat) : (tk T i).text = ((kts T).getD i Q2e).2 := by
 unfold tk kts
 rw [List.getD_eq_getElem?_getD, List.getD_eq_getElem?_getD, List.getElem?_map]
 cases T[i]? <;> rfl
theorem Qc9 (T : List Tok) : (kts T).length = T.length := by unfold kts; rw [List.length_map]
theorem Qms {T : List Tok} (h : Good T) : ∃ C, kts T = C ++ [Q2e] ∧ ∀ x ∈ C, ∃ k : Nat, x.1 = k ∧ tok x.2 = .ok (k, x.2.length) := by
 induction T with
 | nil => exact h.elim
 | cons t r ih =>
  rcases h with ⟨h1, h2, rfl⟩ | ⟨h1, h2⟩
  ·exact ⟨[], by simp [kts, h1, h2], fun x hx => (List.not_mem_nil hx).elim⟩
  ·obtain ⟨C, hC, hx⟩ := ih h2
   refine ⟨(t.kind, t.text) :: C, by simp only [kts, List.map_cons, List.cons_append]; rw [← hC]; rfl, fun x hm => ?_⟩
   rcases List.mem_cons.1 hm with rfl | hm
   ·exact h1
   ·exact hx x hm
theorem Qea {s : List UInt8} {T : List Tok} (h : scan s = .ok T) : Good T := by
 unfold scan at h
 split at h
 ·cases h
 ·exact (Qmu (s.length + 1) 0 s T (by omega) h).1
def Toks (C : List KT) : Prop := ∀ x ∈ C, ∃ k : Nat, x.1 = k ∧ tok x.2 = .ok (k, x.2.length)
theorem Toks.kind {C : List KT} (h : Toks C) {x : KT} (hx : x ∈ C) : x.1 ≠ 3 := by
 obtain ⟨k, h1, h2⟩ := h x hx
 have := Q60 h2
 omega
theorem Qgy {s : List UInt8} {T : List Tok} (h : scan s = .ok T) : ∃ C, kts T = C ++ [Q2e] ∧ Toks C := Qms (Qea h)
section
section
variable {T : List Tok} {C lv i : Nat}
theorem Qhw {f : Nat} {k : Int} (hA : TT C T) (hi : (tk T i).kind ≠ 3) : WO (QW C (Q0b k) i) (part Q0 T f k lv i) := by
 unfold part
 rw [hA.nxt i hi]
 refine (rd_w hA f .cond _ _).bind fun x j hx => ⟨?_, ?_⟩
 ·have hx := hx.1
  dsimp only [okN] at hx
  simp [Q0b, Syn.kind, Syn.text, Syn.num, Syn.kids, hx]
 ·have h1 := hx.2
  have hc := hA.len i
  rw [mulS] at h1
  rw [Qr, Qm, Qw]; simp only [List.length_nil]; omega
theorem Qgr {f : Nat} {w : List UInt8} {k : Int} {xs : List Syn} {b : Nat} (hA : TT C T) (hx : massL xs + C * b ≤ C * i) : WO (fun ys j => (ys = xs ∨ ∃ y, ys = xs ++ [y] ∧ Q0b k y = true) ∧ massL ys + C * b ≤ C * j) (Q69 Q0 T f w k xs lv i) := by
 unfold Q69
 split
 ·rename_i hw
  exact (Qhw hA (Q09 hw).1).bind fun y j hy => ⟨Or.inr ⟨y, rfl, hy.1⟩, by rw [Q9q, Qm, Qw]; have := hy.2; omega⟩
 ·exact ⟨Or.inl rfl, hx⟩
theorem Qd0 {k : Int} {x : Syn} (h : Q0b k x = true) : x.kind = k := by unfold Q0b at h; simp only [Bool.and_eq_true, decide_eq_true_eq] at h; exact h.1.1.1
theorem Qps {b y : Syn} {xs ys : List Syn} (hb : Q2 b = true) (hxs : xs = [b] ∨ ∃ z, xs = [b] ++ [z] ∧ Q0b 2 z = true) (hy : Q0b 3 y = true) (hys : ys = xs ++ [y] ∨ ∃ z, ys = (xs ++ [y]) ++ [z] ∧ Q0b 4 z = true) : Q3x ys = true := by
 have hk : y.kind ≠ 2 := by rw [Qd0 hy]; decide
 rcases hxs with rfl | ⟨z, rfl, hz⟩ <;> rcases hys with rfl | ⟨u, rfl, hu⟩
 ·simp [Q3x, hb, hk, hy]
 ·simp [Q3x, hb, hk, hy, hu]
 ·simp [Q3x, hb, Qd0 hz, hz, hy]
 ·simp [Q3x, hb, Qd0 hz, hz, hy, hu]
theorem Q7x {x : Syn} (h : Q2 x = true) : natB x.num = true := by unfold Q2 at h; simp only [Bool.and_eq_true] at h; exact h.1.2
theorem Q5u {x : Syn} (h : isNm x = true) : Q1h x.text = true := by unfold isNm at h; simp only [Bool.and_eq_true] at h; exact h.2
theorem Q5k (x : Syn) : 70 + 2 * x.text.length ≤ mass x := by rcases x with ⟨a, b, c, d, e⟩; rw [Qr]; simp only [Syn.text]; omega
theorem Q9f {k : Int} {t : List UInt8} {n p : Int} {l : List Syn} : Q2x (.mk k t n p l) = (Q1h t && natB n && (if k = 1 then Q3x l else if k = 5 then decide (n = 0) && (match l with | [a] => oks a | _ => false)
  else if k = 6 then decide (n = 0) && (match l with | [a] => okf a | _ => false) else if k = 7 then (match l with | [a, b] => isNm a && isNm b | _ => false) else false)) := rfl
theorem Qna {k : Int} {t : List UInt8} {n p : Int} {l : List Syn} : Q6j (.mk k t n p l) = (decide (k = 0) && (t == []) && natB n && l.all Q2x) := rfl
theorem nat0 : natB 0 = true := by decide
theorem Qp4 {f : Nat} (hA : TT C T) : WO (QW C Q2x i) (declaration Q0 T f lv i) := by
 unfold declaration
 have hc := hA.len i
 refine WO.bind (P := QW C Q2x i) ?_ fun x j hx => (Q1x hA).bind fun _ k hk => ⟨hx.1, by subst hk; rw [mulS]; have := hx.2; omega⟩
 split
 ·rename_i hw
  rw [hA.nxt i (Q09 hw).1]
  refine (Q3k hA).bind fun nm j hnm => (Q1x hA).bind fun _ j1 h1 => (Q3y hA).bind fun a j2 ha => (Q1x hA).bind fun _ j3 h3 => (Q3y hA).bind fun b j4 hb => (Qgr (b := j3) hA (xs := [b]) (by rw [Qm, Qw]; have := hb.2; omega)).bind fun xs j5 hxs => ?_
  split
  ·rename_i hw2
   refine (Qhw hA (Q09 hw2).1).bind fun y j6 hy => (Qgr (b := j3) hA (xs := xs ++ [y]) (by rw [Q9q, Qm, Qw]; have := hxs.2; have := hy.2; omega)).bind fun ys j7 hys => ⟨?_, ?_⟩
   ·simp [Q9f, Q5u hnm.1, Q7x ha.1, Qps hb.1 hxs.1 hy.1 hys.1]
   ·have e1 := hnm.2; have e2 := ha.2; have e3 := hys.2
    subst h1; subst h3
    rw [mulS] at e1 e2 e3
    have := Q5k nm
    rw [Qr]; omega
  ·trivial
 split
 ·rename_i hw
  rw [hA.nxt i (Q09 hw).1]
  refine (Q3k hA).bind fun nm j hnm => (Q1x hA).bind fun _ j1 h1 => (rd_w hA f .scheme _ _).bind fun x j2 hx => ⟨?_, ?_⟩
  ·have hx := hx.1
   dsimp only [okN] at hx
   simp [Q9f, Q5u hnm.1, hx, nat0]
  ·have e1 := hnm.2; have e2 := hx.2
   subst h1
   rw [mulS] at e1 e2
   have := Q5k nm
   rw [Qr, Qm, Qw]; omega
 split
 ·rename_i hw
  rw [hA.nxt i (Q09 hw).1]
  refine (Q3k hA).bind fun nm j hnm => (Q1x hA).bind fun _ j1 h1 => (rd_w hA f .formula _ _).bind fun x j2 hx => ⟨?_, ?_⟩
  ·have hx := hx.1
   dsimp only [okN] at hx
   simp [Q9f, Q5u hnm.1, hx, nat0]
  ·have e1 := hnm.2; have e2 := hx.2
   subst h1
   rw [mulS] at e1 e2
   have := Q5k nm
   rw [Qr, Qm, Qw]; omega
 split
 ·rename_i hw
  rw [hA.nxt i (Q09 hw).1]
  refine (Q3k hA).bind fun nm j hnm => (Q1x hA).bind fun _ j1 h1 => (Q3k hA).bind fun a j2 ha => (Q1x hA).bind fun _ j3 h3 => (Q3k hA).bind fun b j4 hb => (Q1x hA).bind fun _ j5 h5 => (Q3y hA).bind fun n j6 hn => ⟨?_, ?_⟩
  ·simp [Q9f, Q5u hnm.1, Q7x hn.1, ha.1, hb.1]
  ·have e1 := hnm.2; have e2 := ha.2; have e3 := hb.2; have e4 := hn.2
   subst h1; subst h3; subst h5
   rw [mulS] at e1 e2 e3 e4
   have := Q5k nm
   rw [Qr, Qm, Qm, Qw]; omega
 ·trivial
theorem Qtc {f : Nat} (hA : TT C T) (g : Nat) : ∀ xs k, (xs.all Q2x = true ∧ massL xs + C * i ≤ C * k) → WO (fun xs j => xs.all Q2x = true ∧ massL xs + C * i ≤ C * j) (Q6v Q0 T f lv g xs k) := by
 induction g with
 | zero => intro x k _; trivial
 | succ g ih =>
  intro xs k hx
  unfold Q6v
  split
  ·exact hx
  ·exact (Qp4 hA).bind fun y l hy => ih _ _ ⟨by rw [List.all_append, hx.1]; simp [hy.1], by
    have h1 := hx.2; have h2 := hy.2; rw [Q9q, Qm, Qw]; omega⟩
theorem Qpf {f : Nat} (hA : TT C T) : WR C Q6j (program Q0 T f) := fun lv i => by
 unfold program
 have hc := hA.len i
 refine (Q1x hA).bind fun t j hj => (Q3y hA).bind fun n j1 hn => (Q1x hA).bind fun _ j2 h2 => (Qtc (i := j2) hA _ [] _ ⟨rfl, by rw [Qw]; omega⟩).bind fun xs j3 hxs => ⟨?_, ?_⟩
 ·simp [Qna, Q7x hn.1]
  simpa using hxs.1
 ·have e1 := hn.2; have e2 := hxs.2
  subst hj; subst h2
  rw [mulS] at e1 e2
  rw [Qr]; simp only [List.length_nil]; omega
theorem Qoi {r : Rd} {ok : Syn → Bool} (h : WR C ok r) : WO (QW C ok 0) (whole T r) := (h _ _).bind fun x i hx => by
 split
 ·exact hx
 ·trivial
end
theorem Qmh {s : List UInt8} {T : List Tok} (h : scan s = .ok T) : TT (100 + 2 * s.length) T ∧ T.length ≤ s.length + 1 := by
 have hs : s.length ≤ 65536 := by
  rcases Nat.lt_or_ge 65536 s.length with h' | h'
  ·rw [scan, if_pos h'] at h; cases h
  ·exact h'
 have hg := Qea h
 have h1 : ∀ t ∈ T, Qgd t ∧ t.text.length ≤ s.length := fun t ht => ⟨(scanned h).num t ht, (scanned h).txt t ht⟩
 have h2 := Qnk (Qmc T hg)
 obtain ⟨C, hC, hT⟩ := Qgy h
 have hlen : T.length = C.length + 1 := by rw [← Qc9, hC]; simp
 have hin : ∀ i, (tk T i).kind ≠ 3 → tk T i ∈ T ∧ i < C.length := by
  intro i hi
  rcases Nat.lt_or_ge i T.length with h' | h'
  ·refine ⟨by unfold tk; rw [List.getD_eq_getElem?_getD, List.getElem?_eq_getElem h']; exact List.getElem_mem h', ?_⟩
   rcases Nat.lt_or_ge i C.length with h'' | h''
   ·exact h''
   ·exfalso
    have : i = C.length := by omega
    subst this
    apply hi
    rw [Qck, hC, List.getD_eq_getElem?_getD, List.getElem?_append_right (Nat.le_refl _)]; simp
  ·exfalso; apply hi; unfold tk; rw [List.getD_eq_getElem?_getD, List.getElem?_eq_none h']; rfl
 refine ⟨⟨fun i hi => by unfold nx; rw [if_pos (by have := (hin i hi).2; omega)], fun i => ?_, fun i hi => ?_, fun i hi => ?_⟩, ?_⟩
 ·by_cases hk : (tk T i).kind = 3
  ·have : (tk T i).text.length ≤ s.length := by
    rcases Nat.lt_or_ge i T.length with h' | h'
    ·exact (h1 _ (by unfold tk; rw [List.getD_eq_getElem?_getD, List.getElem?_eq_getElem h']; exact List.getElem_mem h')).2
    ·unfold tk; rw [List.getD_eq_getElem?_getD, List.getElem?_eq_none h']; simp [Qa7]
   omega
  ·have := (h1 _ (hin i hk).1).2; omega
 ·have := (h2 _ (hin i (by rw [hi]; decide)).1).2.2
  rw [hi] at this; exact this
 ·exact ((h1 _ (hin i (by rw [hi]; decide)).1).1 hi).2.2
 ·exact (scanned h).len
end
end Go.Proofs.YtplbfmcgddnkeaaGreatDoor
