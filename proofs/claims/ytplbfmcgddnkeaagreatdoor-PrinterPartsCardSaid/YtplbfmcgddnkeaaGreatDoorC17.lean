/- Walks of functions, and plain facts. -/
import Derived.Test.YtplbfmcgddnkeaaGreatDoorC15
import Derived.Test.YtplbfmcgddnkeaaGreatDoorC14
set_option linter.unusedVariables false
set_option linter.unusedSimpArgs false
set_option maxHeartbeats 20000000
set_option maxRecDepth 100000
namespace Go.Proofs.YtplbfmcgddnkeaaGreatDoor
section
def Rel {α : Type} (o : Out α) (m : Option (α × St)) (lv : Nat) (a : Int) : Prop :=
 match o with
 | .none => True
 | .err p e => e ≠ 0 ∧ ∃ t i, m = some (t, ⟨i, lv, (e : Int), p⟩)
 | .ok t j => m = some (t, ⟨j, lv, 0, a⟩)
def Quiet {α β : Type} (M : α × St → Option (β × St)) (lv lv' : Nat) : Prop := ∀ t i e p, e ≠ 0 → ∃ t' i', M (t, ⟨i, lv, e, p⟩) = some (t', ⟨i', lv', e, p⟩)
def Q9r {β : Type} (M : St → Option (β × St)) (lv lv' : Nat) : Prop := ∀ i e p, e ≠ 0 → ∃ t' i', M ⟨i, lv, e, p⟩ = some (t', ⟨i', lv', e, p⟩)
section
variable {res : List UInt8 → Bool} {T : List Tok} {lv lv' i : Nat} {a : Int}
theorem Q36 {s : St} (h : s.er ≠ 0) : Q8 T s = s := if_neg (fun k => h k.1)
theorem Q5v {s : St} {e : Int} (h : s.er ≠ 0) : Qq T e s = s := if_neg h
theorem Q0w {s : St} {w : List UInt8} (h : s.er ≠ 0) : Q7 T w s = s := by unfold Q7; split <;> simp [Q36, Q5v, h]
theorem Qmp {s : St} (h : s.er ≠ 0) : (Q14 res T s).2 = s := by unfold Q14; dsimp only; split <;> simp [Q36, Q5v, h]
theorem Q50 {s : St} (h : s.er ≠ 0) : (Qd T s).2 = s := by unfold Qd; dsimp only; split <;> simp [Q36, Q5v, h]
theorem Q3p {s : St} (h : s.er ≠ 0) : Qo T s = mUp s := by unfold Qo; split <;> simp [Q5v, mUp, h]
theorem Qar (s : St) : mPop (mUp s) = s := rfl
theorem Q1a (hl : (tk T (T.length - 1)).kind = 3) (hi : i < T.length) (hk : (tk T i).kind ≠ 3) : Q8 T ⟨i, lv, 0, a⟩ = ⟨nx T i, lv, 0, a⟩ := by
 obtain ⟨h1, h2⟩ := Q04 hl hi hk
 rw [h1]; exact if_pos ⟨rfl, hk⟩
theorem Rel.bind {α β : Type} {o : Out α} {m : Option (α × St)} {k : α → Nat → Out β} {M : α × St → Option (β × St)} (h : Rel o m lv a)
  (hk : ∀ t j, o = .ok t j → Rel (k t j) (M (t, ⟨j, lv, 0, a⟩)) lv' a) (hq : Quiet M lv lv') : Rel (o.bind k) (m.bind M) lv' a := by
 cases o with
 | none => trivial
 | err p e =>
  obtain ⟨he, t, j, hm⟩ := h
  rw [hm]
  obtain ⟨t', j', h'⟩ := hq t j (e : Int) p (by omega)
  exact ⟨he, t', j', h'⟩
 | ok t j =>
  have h' : m = some (t, ⟨j, lv, 0, a⟩) := h
  rw [h']
  exact hk t j rfl
theorem Rel.fail {β : Type} {M : St → Option (β × St)} (e : Nat) (he : e ≠ 0) (hq : Q9r M lv lv') : Rel (fail T e i : Out β) (M (Qq T (e : Int) ⟨i, lv, 0, a⟩)) lv' a := by
 obtain ⟨t', j', h'⟩ := hq i (e : Int) (tk T i).pos (by omega)
 exact ⟨he, t', j', h'⟩
theorem Rel.need {β : Type} {w : List UInt8} {k : Tok → Nat → Out β} {M : St → Option (β × St)} (hl : (tk T (T.length - 1)).kind = 3) (hi : i < T.length)
  (hk : isW T [w] i = true → nx T i < T.length → Rel (k (tk T i) (nx T i)) (M ⟨nx T i, lv, 0, a⟩) lv' a) (hq : Q9r M lv lv') : Rel ((need T w i).bind k) (M (Q7 T w ⟨i, lv, 0, a⟩)) lv' a := by
 unfold Go.Proofs.YtplbfmcgddnkeaaGreatDoor.need Q7
 cases hb : isW T [w] i
 ·rw [if_neg Bool.false_ne_true, if_neg Bool.false_ne_true, Q36 (by unfold Qq; simp)]
  exact Rel.fail (M := M) 4 (by decide) hq
 ·rw [if_pos (rfl : true = true), if_pos (rfl : true = true), Q1a hl hi (Qc hb)]
  obtain ⟨h1, h2⟩ := Q04 hl hi (Qc hb)
  exact hk hb (by omega)
theorem Rel.name {β : Type} {k : Syn → Nat → Out β} {M : Syn × St → Option (β × St)} (hl : (tk T (T.length - 1)).kind = 3) (hi : i < T.length)
  (hk : nx T i < T.length → Rel (k (.mk 8 (tk T i).text 0 (tk T i).pos []) (nx T i)) (M (.mk 8 (tk T i).text 0 (tk T i).pos [], ⟨nx T i, lv, 0, a⟩)) lv' a) (hq : Quiet M lv lv') :
  Rel ((name res T i).bind k) (M (Q14 res T ⟨i, lv, 0, a⟩)) lv' a := by
 unfold Go.Proofs.YtplbfmcgddnkeaaGreatDoor.name Q14
 dsimp only
 have hn : Q0y res T i = true ↔ ¬ ((tk T i).kind ≠ 0 ∨ res (tk T i).text = true) := by unfold Q0y; simp
 by_cases hb : Q0y res T i = true
 ·rw [if_neg (hn.1 hb), if_pos hb, Q1a hl hi (by unfold Q0y at hb; simp at hb; omega)]
  obtain ⟨h1, h2⟩ := Q04 hl hi (i := i) (by unfold Q0y at hb; simp at hb; omega)
  exact hk (by omega)
 ·rw [if_pos (by exact Decidable.not_not.1 fun h => hb (hn.2 h)), if_neg hb, Q36 (by unfold Qq; simp)]
  obtain ⟨t', j', h'⟩ := hq (.mk 8 (tk T i).text 0 (tk T i).pos []) i 4 (tk T i).pos (by decide)
  exact ⟨by decide, t', j', h'⟩
theorem Rel.number {β : Type} {k : Syn → Nat → Out β} {M : Syn × St → Option (β × St)} (hT : TokOk T) (hi : i < T.length)
  (hk : nx T i < T.length → Rel (k (.mk 9 [] (dv 0 (tk T i).text : Nat) (tk T i).pos []) (nx T i)) (M (.mk 9 [] (dv 0 (tk T i).text : Nat) (tk T i).pos [], ⟨nx T i, lv, 0, a⟩)) lv' a) (hq : Quiet M lv lv') :
  Rel ((number T i).bind k) (M (Qd T ⟨i, lv, 0, a⟩)) lv' a := by
 unfold Go.Proofs.YtplbfmcgddnkeaaGreatDoor.number Qd
 dsimp only
 by_cases hb : (tk T i).kind = 1
 ·rw [if_neg (by omega), if_pos hb, Q1a hT.last hi (by omega), hT.num i hi hb]
  obtain ⟨h1, h2⟩ := Q04 hT.last hi (i := i) (by omega)
  exact hk (by omega)
 ·rw [if_pos hb, if_neg hb, Q36 (by unfold Qq; simp)]
  obtain ⟨t', j', h'⟩ := hq (.mk 9 [] (mVal (tk T i).text) (tk T i).pos []) i 4 (tk T i).pos (by decide)
  exact ⟨by decide, t', j', h'⟩
theorem Rel.push {β : Type} {o : Out β} {M : St → Option (β × St)} (hk : lv + 1 ≤ 128 → Rel o (M ⟨i, lv + 1, 0, a⟩) lv' a) (hq : Q9r M (lv + 1) lv') :
  Rel (if 128 < lv + 1 then Go.Proofs.YtplbfmcgddnkeaaGreatDoor.fail T 12 i else o) (M (Qo T ⟨i, lv, 0, a⟩)) lv' a := by
 unfold Qo mUp
 dsimp only
 by_cases hb : 128 < lv + 1
 ·rw [if_pos hb, if_pos hb]
  exact Rel.fail (M := M) 12 (by decide) hq
 ·rw [if_neg hb, if_neg hb]
  exact hk (by omega)
def RelR (T : List Tok) (r : Rd) (m : MRd) : Prop := ∀ lv i a, i < T.length → Rel (r lv i) (m ⟨i, lv, 0, a⟩) lv a
def Idle (m : MRd) : Prop := ∀ s : St, s.er ≠ 0 → ∃ t, m s = some (t, s)
theorem Qih {r : MRd} {ops : List (List UInt8)} : Idle (Q2l T r ops) := fun s h => ⟨Q2r, if_pos h⟩
theorem Qtj : Idle (mSet T) := fun s h => by
 unfold mSet
 split
 ·exact ⟨_, by rw [Q36 h]⟩
 ·rw [Q0w h, Q0w h, if_neg (fun k => h k.1)]
  exact ⟨_, rfl⟩
theorem Qol {fo : MRd} (hf : Idle fo) (w : List UInt8) : ∀ s : St, s.er ≠ 0 → ∃ t, Q06 T fo w s = some (t, s) := fun s h => by
 unfold Q06
 split
 ·exact ⟨_, by rw [Q50 h, Q0w h, Q50 h]⟩
 ·split
  ·exact ⟨_, by rw [Q50 h]⟩
  ·split
   ·rw [Q50 h, Q0w h]
    obtain ⟨t, ht⟩ := hf s h
    exact ⟨_, by rw [ht]; rfl⟩
   ·split
    ·obtain ⟨t, ht⟩ := Qtj (T := T) s h
     obtain ⟨t2, ht2⟩ := hf s h
     exact ⟨_, by rw [ht, Option.bind_some, Q0w h, ht2]; rfl⟩
    ·obtain ⟨t2, ht2⟩ := hf s h
     exact ⟨_, by rw [ht2]; rfl⟩
theorem Q62 (f : Nat) : ∀ nt, Idle (mrd res T (f + 2) nt) := by
 have h1 : ∀ nt, nt ≠ .atom → nt ≠ .formula → ∀ f, Idle (mrd res T (f + 1) nt) := by
  intro nt ha hf f
  cases nt with
  | atom => exact absurd rfl ha
  | formula => exact absurd rfl hf
  | neg => exact fun s h => ⟨Q2r, if_pos h⟩
  | unit => exact fun s h => ⟨Q2r, if_pos h⟩
  | factor => exact fun s h => ⟨Q2r, if_pos h⟩
  | lit => exact fun s h => ⟨Q2r, if_pos h⟩
  | _ => exact Qih
 intro nt
 by_cases ha : nt = .atom
 ·subst ha
  intro s h
  unfold mrd
  have hu : (mUp s).er ≠ 0 := h
  split
  ·exact ⟨(Q14 res T s).1, congrArg some (Prod.ext rfl (Qmp h))⟩
  split
  ·exact ⟨_, by rw [Q36 h, Q0w h, Q3p h, Q50 hu, Qar, Q0w h]⟩
  split
  ·exact ⟨_, by rw [Q36 h]⟩
  split
  ·obtain ⟨t, ht⟩ := h1 .cond (by decide) (by decide) f (mUp s) hu
   exact ⟨_, by rw [Q36 h, Q0w h, Q3p h, ht, Option.bind_some, Qar, Q0w h]⟩
  split
  ·obtain ⟨t, ht⟩ := h1 .scheme (by decide) (by decide) f (mUp s) hu
   exact ⟨_, by rw [Q36 h, Q3p h, ht, Option.bind_some, Qar, Q0w h]⟩
  ·exact ⟨_, by rw [Q5v h]⟩
 by_cases hf : nt = .formula
 ·subst hf
  intro s h
  unfold mrd
  obtain ⟨t, ht⟩ := h1 .disj (by decide) (by decide) f s h
  exact ⟨t, by rw [ht, Option.bind_some, if_neg (fun k => h k.1)]⟩
 ·exact h1 nt ha hf _
theorem Qgm {r : MRd} {ops : List (List UInt8)} {g : Nat} {x : Syn} {s : St} (h : s.er ≠ 0) : Q3d T r ops (g + 1) x s = some (x, s) := if_neg (fun k => h k.1)
theorem Qqa {r : Rd} {m : MRd} {ops : List (List UInt8)} (hl : (tk T (T.length - 1)).kind = 3) (ho : OnR T r) (hr : RelR T r m) (g : Nat) : ∀ x i, i < T.length → Rel (Q1b T r ops lv g x i) (Q3d T m ops (g + 1) x ⟨i, lv, 0, a⟩) lv a := by
 induction g with
 | zero => intro x i _; trivial
 | succ g ih =>
  intro x i hi
  rw [Q1b, Q3d]
  cases hb : isW T ops i
  ·rw [if_neg Bool.false_ne_true, if_neg (by rintro ⟨_, h⟩; cases h)]
   exact rfl
  ·rw [if_pos (rfl : true = true), if_pos ⟨rfl, rfl⟩]
   obtain ⟨h1, h2⟩ := Q04 hl hi (Qc hb)
   rw [Q1a hl hi (Qc hb)]
   refine (hr lv (nx T i) a (by omega)).bind (fun y j hy => ?_) fun t i' e p he => ⟨_, _, Qgm he⟩
   exact ih _ _ (ho _ _ (by omega) _ _ hy).2
theorem Qrt {r : Rd} {m : MRd} {ops : List (List UInt8)} (hl : (tk T (T.length - 1)).kind = 3) (ho : OnR T r) (hr : RelR T r m) : RelR T (left T r ops) (Q2l T m ops) := fun lv i a hi => by
 show Rel _ (if _ then _ else _) _ _
 rw [if_neg (fun h : (0 : Int) ≠ 0 => h rfl)]
 refine (hr lv i a hi).bind (fun y j hy => ?_) fun t i' e p he => ⟨_, _, Qgm he⟩
 exact Qqa hl ho hr _ _ _ (ho _ _ hi _ _ hy).2
theorem Qd6 {g : Nat} {x : List Syn} {s : St} (h : s.er ≠ 0) : Q2v T (g + 1) x s = some (x, s) := if_neg (fun k => h k.1)
theorem Ql6 (hT : TokOk T) (g : Nat) : ∀ xs i, i < T.length → Rel (Q1q T g xs i) (Q2v T (g + 1) xs ⟨i, lv, 0, a⟩) lv a := by
 induction g with
 | zero => intro x i _; trivial
 | succ g ih =>
  intro xs i hi
  rw [Q1q, Q2v]
  cases hb : isW T [[44]] i
  ·rw [if_neg Bool.false_ne_true, if_neg (by rintro ⟨_, h⟩; cases h)]
   exact rfl
  ·rw [if_pos (rfl : true = true), if_pos ⟨rfl, rfl⟩]
   obtain ⟨h1, h2⟩ := Q04 hT.last hi (Qc hb)
   rw [Q1a hT.last hi (Qc hb)]
   exact Rel.number (M := fun p => Q2v T (g + 1) (xs ++ [p.1]) p.2) hT (by omega) (fun h => ih _ _ h) fun t i' e p he => ⟨_, _, Qd6 he⟩
theorem Q90 {w : List UInt8} (h : isW T [w] i = true) : (tk T i).text = w := by
 unfold isW at h
 simp only [Bool.and_eq_true, List.contains_iff_mem, List.mem_singleton] at h
 exact h.2
theorem Qij (hT : TokOk T) : RelR T (fun _ => setR T) (mSet T) := fun lv i a hi => by
 show Rel (setR T i) _ _ _
 unfold setR mSet
 cases hb : isW T [[101, 118, 101, 114, 121, 111, 110, 101]] i
 ·rw [if_neg Bool.false_ne_true, if_neg Bool.false_ne_true]
  refine Rel.need (M := fun s => if s.er = 0 ∧ isW T [[125]] s.i = false then (Q2v T (T.length + 2) [(Qd T s).1] (Qd T s).2).bind fun p => some (Syn.mk 14 [] 0 (tk T i).pos p.1, Q7 T [125] p.2)
   else some (Syn.mk 14 [] 0 (tk T i).pos [], Q7 T [125] s)) hT.last hi (fun hw h => ?_) (fun i' e p he => ?_)
  ·dsimp only
   cases hc : isW T [[125]] (nx T i)
   ·rw [if_neg Bool.false_ne_true, if_pos ⟨rfl, rfl⟩]
    refine Rel.number (M := fun p => (Q2v T (T.length + 2) [p.1] p.2).bind fun p => some (Syn.mk 14 [] 0 (tk T i).pos p.1, Q7 T [125] p.2)) hT h (fun h => ?_) (fun t i' e p he => ?_)
    ·refine (Ql6 hT _ _ _ h).bind (fun xs j hj => ?_) fun t i' e p he => ⟨_, _, by (try dsimp only); rw [Q0w (by exact he)]⟩
     exact Rel.need (M := fun s => some (Syn.mk 14 [] 0 (tk T i).pos xs, s)) hT.last (Qhj hT.last _ _ _ h _ _ hj).2 (fun _ _ => rfl) fun i' e p he => ⟨_, _, rfl⟩
    ·exact ⟨_, _, by (try dsimp only); rw [Qd6 (by exact he), Option.bind_some, Q0w (by exact he)]⟩
   ·rw [if_pos (rfl : true = true), if_neg (by simp)]
    have : Q7 T [125] ⟨nx T i, lv, 0, a⟩ = ⟨nx T (nx T i), lv, 0, a⟩ := by unfold Q7; rw [if_pos hc]; exact Q1a hT.last h (Qc hc)
    rw [this]
    exact rfl
  ·exact ⟨_, _, by (try dsimp only); rw [if_neg (fun k => he k.1), Q0w he]⟩
 ·rw [if_pos (rfl : true = true), if_pos (rfl : true = true), Q1a hT.last hi (Qc hb), Q90 hb]
  exact rfl
theorem Q6t {r : Rd} {m : MRd} (hr : RelR T r m) (hm : Idle m) (hi : i < T.length) : Rel (within T r lv i) (m (Qo T ⟨i, lv, 0, a⟩)) (lv + 1) a :=
 Rel.push (M := m) (fun _ => hr _ _ _ hi) fun i' e p he => (hm ⟨i', lv + 1, e, p⟩ he).imp fun t h => ⟨i', h⟩
theorem Qhe {r : Rd} (hr : OnR T r) (hi : i < T.length) {t : Syn} {j : Nat} (h : within T r lv i = .ok t j) : j < T.length := (Q6d hr hi _ _ h).2
theorem Rel.close {m : Option (Syn × St)} {o : Out Syn} {t : Syn → Syn} (hl : (tk T (T.length - 1)).kind = 3) (h : Rel o m (lv + 1) a) (ho : ∀ x j, o = .ok x j → j < T.length) :
  Rel (o.bind fun x j => (Go.Proofs.YtplbfmcgddnkeaaGreatDoor.need T [41] j).bind fun _ j => .ok (t x) j) (m.bind fun p => some (t p.1, Q7 T [41] (mPop p.2))) lv a :=
 h.bind (fun x j hx => Rel.need (M := fun s => some (t x, s)) hl (ho x j hx) (fun _ _ => rfl) fun i' e p he => ⟨_, _, rfl⟩) fun t i' e p he => ⟨_, _, by (try dsimp only); rw [Q0w (by exact he)]; rfl⟩
theorem Qcu {r : Rd} {m : MRd} (hl : (tk T (T.length - 1)).kind = 3) (ho : OnR T r) (hr : RelR T r m) (hm : Idle m) (hi : i < T.length) (hw : isW T [[40]] i = true) :
  Rel (parens T r lv i) ((m (Qo T (Q8 T ⟨i, lv, 0, a⟩))).bind fun p => some (p.1, Q7 T [41] (mPop p.2))) lv a := by
 obtain ⟨h1, h2⟩ := Q04 hl hi (Qc hw)
 rw [Q1a hl hi (Qc hw)]
 unfold parens Go.Proofs.YtplbfmcgddnkeaaGreatDoor.need
 rw [if_pos hw]
 exact (Q6t hr hm (by omega)).close (t := id) hl fun x j h => Qhe ho (by omega) h
theorem Qta {r : Rd} {m : MRd} (hl : (tk T (T.length - 1)).kind = 3) (ho : OnR T r) (hr : RelR T r m) (hm : Idle m) (hi : i < T.length) (t : Syn → Syn) :
  Rel ((parens T r lv i).bind fun x j => .ok (t x) j) ((m (Qo T (Q7 T [40] ⟨i, lv, 0, a⟩))).bind fun p => some (t p.1, Q7 T [41] (mPop p.2))) lv a := by
 unfold parens
 rw [Out.bind_assoc]
 refine Rel.need (M := fun s => (m (Qo T s)).bind fun p => some (t p.1, Q7 T [41] (mPop p.2))) hl hi (fun _ h => ?_) fun i' e p he => ?_
 ·rw [Out.bind_assoc]
  simp only [Out.bind_assoc]
  exact (Q6t hr hm h).close hl fun x j h' => Qhe ho h h'
 ·obtain ⟨u, hu⟩ := hm ⟨i', lv + 1, e, p⟩ he
  exact ⟨_, _, by (try dsimp only); rw [Q3p (by exact he), mUp, hu, Option.bind_some, Q0w (by exact he)]; rfl⟩
theorem Q7y {rs : List Rd} {mA : St → Option (List Syn × St)} (hl : (tk T (T.length - 1)).kind = 3) (hr : ∀ i, i < T.length → Rel (Qt T rs (lv + 1) i) (mA ⟨i, lv + 1, 0, a⟩) (lv + 1) a)
  (ho : ∀ r ∈ rs, OnR T r) (hm : ∀ s : St, s.er ≠ 0 → ∃ t, mA s = some (t, s)) (hi : i < T.length) (w : Tok) :
  Rel (arguments T w rs lv i) ((mA (Qo T (Q7 T [40] ⟨i, lv, 0, a⟩))).bind fun p => some (Syn.mk 10 w.text 0 w.pos p.1, Q7 T [41] (mPop p.2))) lv a := by
 unfold arguments
 refine Rel.need (M := fun s => (mA (Qo T s)).bind fun p => some (Syn.mk 10 w.text 0 w.pos p.1, Q7 T [41] (mPop p.2))) hl hi (fun _ h => ?_) fun i' e p he => ?_
 ·refine Rel.push (M := fun s => (mA s).bind fun p => some (Syn.mk 10 w.text 0 w.pos p.1, Q7 T [41] (mPop p.2))) (fun _ => ?_) fun i' e p he => ?_
  ·refine (hr _ h).bind (fun xs j hx => ?_) fun t i' e p he => ⟨_, _, by (try dsimp only); rw [Q0w (by exact he)]; rfl⟩
   exact Rel.need (M := fun s => some (Syn.mk 10 w.text 0 w.pos xs, s)) hl (Qfd hl ho h _ _ hx).2 (fun _ _ => rfl) fun i' e p he => ⟨_, _, rfl⟩
  ·obtain ⟨u, hu⟩ := hm ⟨i', lv + 1, e, p⟩ he
   exact ⟨_, _, by (try dsimp only); rw [hu, Option.bind_some, Q0w (by exact he)]; rfl⟩
 ·obtain ⟨u, hu⟩ := hm ⟨i', lv + 1, e, p⟩ he
  exact ⟨_, _, by (try dsimp only); rw [Q3p (by exact he), mUp, hu, Option.bind_some, Q0w (by exact he)]; rfl⟩
theorem Qq9 (r : Rd) : Qt T [r] lv i = (r lv i).bind fun x j => .ok [x] j := by simp [Qt, Qt.argsMore, Out.bind]
theorem Qsr (r q : Rd) : Qt T [r, q] lv i = (r lv i).bind fun x j => (need T [44] j).bind fun _ j => (q lv j).bind fun y j => .ok [x, y] j := by
 simp [Qt, Qt.argsMore, Out.bind_assoc]
 rfl
theorem Q80 {r : Rd} {m : MRd} (hr : RelR T r m) (hi : i < T.length) : Rel (Qt T [r] lv i) ((m ⟨i, lv, 0, a⟩).bind fun p => some ([p.1], p.2)) lv a := by
 rw [Qq9]
 exact (hr _ _ _ hi).bind (fun x j _ => rfl) fun t i' e p he => ⟨_, _, rfl⟩
theorem Q98 {r q : Rd} {m n : MRd} (hl : (tk T (T.length - 1)).kind = 3) (hr : RelR T r m) (ho : OnR T r) (hq : RelR T q n) (hn : Idle n) (hi : i < T.length) :
  Rel (Qt T [r, q] lv i) ((m ⟨i, lv, 0, a⟩).bind fun p => (n (Q7 T [44] p.2)).bind fun q => some ([p.1, q.1], q.2)) lv a := by
 rw [Qsr]
 have hz : ∀ x : Syn, Q9r (fun s => (n s).bind fun q => some ([x, q.1], q.2)) lv lv := fun x i' e p he => by
  obtain ⟨u, hu⟩ := hn ⟨i', lv, e, p⟩ he
  exact ⟨_, _, by (try dsimp only); rw [hu]; rfl⟩
 refine (hr _ _ _ hi).bind (fun x j hx => ?_) fun t i' e p he => ?_
 ·refine Rel.need (M := fun s => (n s).bind fun q => some ([x, q.1], q.2)) hl (ho _ _ hi _ _ hx).2 (fun _ h => ?_) (hz x)
  exact (hq _ _ _ h).bind (fun y j _ => rfl) fun t i' e p he => ⟨_, _, rfl⟩
 ·dsimp only
  rw [Q0w (by exact he)]
  exact hz t i' e p he
theorem Q6b (hT : TokOk T) : RelR T (fun _ => number T) (fun s => some (Qd T s)) := fun lv i a hi => by
 have := Rel.number (T := T) (lv := lv) (lv' := lv) (a := a) (k := fun x j => .ok x j) (M := fun p => some p) hT hi (fun _ => rfl) fun t i' e p he => ⟨_, _, rfl⟩
 rwa [← Out.bind_ok] at this
theorem Qn2 : Idle (fun s => some (Qd T s)) := fun s h => ⟨(Qd T s).1, by show some ((Qd T s).1, (Qd T s).2) = _; rw [Q50 h]⟩
theorem Qi4 (hl : (tk T (T.length - 1)).kind = 3) : RelR T (fun _ => name res T) (fun s => some (Q14 res T s)) := fun lv i a hi => by
 have := Rel.name (res := res) (T := T) (lv := lv) (lv' := lv) (a := a) (k := fun x j => .ok x j) (M := fun p => some p) hl hi (fun _ => rfl) fun t i' e p he => ⟨_, _, rfl⟩
 rwa [← Out.bind_ok] at this
theorem Q88 {w : List UInt8} (h : isW T [w] i = true) (ws : List (List UInt8)) : isW T ws i = ws.contains w := by
 have ht := Q90 h
 unfold isW at h ⊢
 simp only [Bool.and_eq_true] at h
 rw [h.1, ht, Bool.true_and]
theorem Q3a (w : List UInt8) (ws : List (List UInt8)) : isW T (w :: ws) i = (isW T [w] i || isW T ws i) := by
 unfold isW
 cases (decide ((tk T i).kind = 2) || decide ((tk T i).kind = 0)) <;> simp [List.contains_cons]
theorem Q8y : isW T [] i = false := by unfold isW; simp
theorem Qnh {w : List UInt8} (h : isW T [w] i = true) (hr : res w = true) : Q0y res T i = false := by unfold Q0y; rw [Q90 h, hr]; simp
theorem Qeg {w : List UInt8} (h : Q0y res T i = true) (hr : res w = true) : isW T [w] i = false := by
 cases hb : isW T [w] i
 ·rfl
 ·rw [Qnh hb hr] at h; cases h
theorem Qez (h : Q0y res T i = false) : name res T i = Go.Proofs.YtplbfmcgddnkeaaGreatDoor.fail T 4 i := by
 unfold Go.Proofs.YtplbfmcgddnkeaaGreatDoor.name
 rw [if_pos]
 unfold Q0y at h
 by_cases hk : (tk T i).kind = 0
 ·right; simp [hk] at h; exact h
 ·left; exact hk
def Words (res : List UInt8 → Bool) : Prop := ∀ w ∈ [[105, 110], [111, 117, 116], [104, 101, 97, 114, 115], [99, 111, 117, 110, 116], [99, 114, 97, 115, 104], [115, 101, 110, 100], [114, 101, 99, 101, 105, 118, 101], [111, 109, 105, 116], [112, 97, 114, 116, 105, 116, 105, 111, 110], [115, 110, 97, 112, 115, 104, 111, 116], [103, 114, 97, 112, 104, 115]], res w = true
theorem Qf7 (hT : TokOk T) (h : Q0y res T i = true) : isW T [[40]] i = false := by
 cases hb : isW T [[40]] i
 ·rfl
 ·have h1 := Q90 hb
  unfold Q0y at h
  simp at h
  exact absurd h1 (hT.par i h.1)
theorem Q8j (t : Syn) : Rel (Go.Proofs.YtplbfmcgddnkeaaGreatDoor.fail T 4 i : Out Syn) (some (t, Qq T 4 ⟨i, lv, 0, a⟩)) lv a :=
 Rel.fail (M := fun s => some (t, s)) 4 (by decide) fun i' e p he => ⟨_, _, rfl⟩
theorem Qr7 (hT : TokOk T) (hW : Words res) (f : Nat) (ih : ∀ nt, RelR T (rd res T f nt) (mrd res T (f + 2) nt)) : RelR T (rd res T (f + 1) .unit) (mrd res T (f + 3) .unit) := fun lv i a hi => by
 have hl := hT.last
 have hon := fun nt => Q4a (res := res) hl f nt
 have hid := fun nt => Q62 (res := res) (T := T) f nt
 rw [rd, mrd]
 dsimp only
 rw [if_neg (fun h : (0 : Int) ≠ 0 => h rfl)]
 by_cases hk : (tk T i).kind = 1
 ·rw [if_pos hk, if_pos hk]
  exact Q6b hT lv i a hi
 rw [if_neg hk, if_neg hk]
 cases hn : Q0y res T i
 ·rw [if_neg Bool.false_ne_true, Q3a [105, 110], Q3a [111, 117, 116] [], Q8y, Bool.or_false]
  have two : ∀ ws, isW T [[105, 110]] i = true ∨ isW T [[111, 117, 116]] i = true → ws.contains [105, 110] = false → ws.contains [111, 117, 116] = false → isW T ws i = false := by
   rintro ws (h | h) h1 h2
   ·rw [Q88 h]; exact h1
   ·rw [Q88 h]; exact h2
  by_cases h1 : isW T [[105, 110]] i = true ∨ isW T [[111, 117, 116]] i = true
  ·rw [if_pos (by simpa using h1), if_neg (by rw [two _ h1 (by decide) (by decide)]; decide), if_pos h1]
   have hk3 : (tk T i).kind ≠ 3 := by rcases h1 with h1 | h1 <;> exact Qc h1
   obtain ⟨q1, q2⟩ := Q04 hl hi hk3
   rw [Q1a hl hi hk3]
   have := Q7y (lv := lv) (a := a) (i := nx T i) (rs := [rd res T f .sum]) (mA := fun s => (mrd res T (f + 2) .sum s).bind fun p => some ([p.1], p.2)) hl (fun i hi => Q80 (ih .sum) hi) (fun r hr => by rw [List.mem_singleton.1 hr]; exact hon _)
    (fun s h => by obtain ⟨t, ht⟩ := hid .sum s h; exact ⟨_, by rw [ht]; rfl⟩) (by omega) (tk T i)
   rw [Option.bind_assoc] at this
   exact this
  rw [if_neg (by simpa using h1), if_neg h1]
  clear two
  cases h2 : isW T [[104, 101, 97, 114, 115]] i
  ·rw [if_neg Bool.false_ne_true]
   cases h3 : isW T [[99, 111, 117, 110, 116]] i
   ·rw [if_neg Bool.false_ne_true]
    cases h4 : isW T [[40]] i
    ·rw [if_neg Bool.false_ne_true, if_neg Bool.false_ne_true, if_neg Bool.false_ne_true, if_neg Bool.false_ne_true, Qez hn]
     exact Q8j _
    ·rw [if_pos (rfl : true = true), if_pos (rfl : true = true)]
     exact Qcu hl (hon _) (ih _) (hid _) hi h4
   ·rw [if_pos (rfl : true = true), if_neg (by rw [Q88 h3]; decide), if_neg Bool.false_ne_true, if_pos (rfl : true = true)]
    have hk3 := Qc h3
    obtain ⟨q1, q2⟩ := Q04 hl hi hk3
    rw [Q1a hl hi hk3]
    refine Rel.name (M := fun n => (mrd res T (f + 2) .cond (Qo T (Q7 T [40] n.2))).bind fun p => some (Syn.mk 13 (tk T i).text 0 (tk T i).pos [n.1, p.1], Q7 T [41] (mPop p.2))) hl (by omega) (fun h => ?_) fun t i' e p he => ?_
    ·exact Qta hl (hon _) (ih _) (hid _) h fun x => .mk 13 (tk T i).text 0 (tk T i).pos [_, x]
    ·obtain ⟨u, hu⟩ := hid .cond ⟨i', lv + 1, e, p⟩ he
     exact ⟨_, _, by (try dsimp only); rw [Q0w (by exact he), Q3p (by exact he), mUp, hu, Option.bind_some, Q0w (by exact he)]; rfl⟩
  ·rw [if_pos (rfl : true = true), if_neg (by rw [Q88 h2]; decide), if_pos (rfl : true = true)]
   have hk3 := Qc h2
   obtain ⟨q1, q2⟩ := Q04 hl hi hk3
   rw [Q1a hl hi hk3]
   have := Q7y (lv := lv) (a := a) (i := nx T i) (rs := [rd res T f .sum, rd res T f .sum]) (mA := fun s => (mrd res T (f + 2) .sum s).bind fun p => (mrd res T (f + 2) .sum (Q7 T [44] p.2)).bind fun q => some ([p.1, q.1], q.2)) hl
    (fun i hi => Q98 hl (ih .sum) (hon _) (ih .sum) (hid _) hi) (fun r hr => by simp only [List.mem_cons, List.not_mem_nil, or_false, or_self] at hr; rw [hr]; exact hon _)
    (fun s h => by obtain ⟨t, ht⟩ := hid .sum s h; exact ⟨_, by rw [ht, Option.bind_some, Q0w (by exact h), ht]; rfl⟩) (by omega) (tk T i)
   simp only [Option.bind_assoc] at this
   exact this
 ·have hw := fun w hw => Qeg hn (hW w hw)
  rw [if_pos (rfl : true = true), Q3a [105, 110], Q3a [111, 117, 116] [], Q8y, hw _ (by decide), hw _ (by decide), hw _ (by decide), hw _ (by decide), Qf7 hT hn]
  exact Qi4 hl lv i a hi
theorem Qo7 (hT : TokOk T) (hW : Words res) (f : Nat) (ih : ∀ nt, RelR T (rd res T f nt) (mrd res T (f + 2) nt)) : RelR T (rd res T (f + 1) .atom) (mrd res T (f + 3) .atom) := fun lv i a hi => by
 have hl := hT.last
 have hon := fun nt => Q4a (res := res) hl f nt
 have hid := fun nt => Q62 (res := res) (T := T) f nt
 rw [rd, mrd]
 dsimp only
 cases hn : Q0y res T i
 ·rw [if_neg Bool.false_ne_true]
  cases h1 : isW T [[99, 114, 97, 115, 104], [115, 101, 110, 100], [114, 101, 99, 101, 105, 118, 101], [111, 109, 105, 116], [112, 97, 114, 116, 105, 116, 105, 111, 110]] i
  ·rw [if_neg Bool.false_ne_true, if_neg Bool.false_ne_true]
   cases h2 : isW T [[115, 110, 97, 112, 115, 104, 111, 116]] i
   ·rw [if_neg Bool.false_ne_true, if_neg Bool.false_ne_true]
    cases h3 : isW T [[103, 114, 97, 112, 104, 115]] i
    ·rw [if_neg Bool.false_ne_true, if_neg Bool.false_ne_true]
     cases h4 : isW T [[40]] i
     ·rw [if_neg Bool.false_ne_true, if_neg Bool.false_ne_true, Qez hn]
      exact Q8j _
     ·rw [if_pos (rfl : true = true), if_pos (rfl : true = true)]
      exact Qcu hl (hon _) (ih _) (hid _) hi h4
    ·rw [if_pos (rfl : true = true), if_pos (rfl : true = true)]
     have hk3 := Qc h3
     obtain ⟨q1, q2⟩ := Q04 hl hi hk3
     rw [Q1a hl hi hk3]
     have := Q7y (lv := lv) (a := a) (i := nx T i) (rs := [rd res T f .cond]) (mA := fun s => (mrd res T (f + 2) .cond s).bind fun p => some ([p.1], p.2)) hl (fun i hi => Q80 (ih .cond) hi) (fun r hr => by rw [List.mem_singleton.1 hr]; exact hon _)
      (fun s h => by obtain ⟨t, ht⟩ := hid .cond s h; exact ⟨_, by rw [ht]; rfl⟩) (by omega) (tk T i)
     rw [Option.bind_assoc] at this
     exact this
   ·rw [if_pos (rfl : true = true), if_pos (rfl : true = true), Q1a hl hi (Qc h2)]
    exact rfl
  ·rw [if_pos (rfl : true = true), if_pos (rfl : true = true)]
   have hk3 := Qc h1
   obtain ⟨q1, q2⟩ := Q04 hl hi hk3
   rw [Q1a hl hi hk3]
   exact Q7y (lv := lv) (a := a) (i := nx T i) (rs := [fun _ => number T]) (mA := fun s => some ([(Qd T s).1], (Qd T s).2)) hl (fun i hi => Q80 (Q6b hT) hi) (fun r hr => by rw [List.mem_singleton.1 hr]; exact fun _ _ h => Q29 hl h)
    (fun s h => ⟨_, by rw [Q50 h]⟩) (by omega) (tk T i)
 ·have hw := fun w hw => Qeg hn (hW w hw)
  rw [if_pos (rfl : true = true), Q3a [99, 114, 97, 115, 104], Q3a [115, 101, 110, 100], Q3a [114, 101, 99, 101, 105, 118, 101], Q3a [111, 109, 105, 116], Q3a [112, 97, 114, 116, 105, 116, 105, 111, 110] [], Q8y,
   hw _ (by decide), hw _ (by decide), hw _ (by decide), hw _ (by decide), hw _ (by decide), hw _ (by decide), hw _ (by decide), Qf7 hT hn]
  exact Qi4 hl lv i a hi
end
end
section
theorem Qd7 (T : List Tok) (e : Int) (s : St) : (Qq T e s).i = s.i := by unfold Qq; split <;> rfl
theorem Q4p (T : List Tok) (e : Int) (s : St) : (Qq T e s).lv = s.lv := by unfold Qq; split <;> rfl
theorem Qp (T : List Tok) (s : St) : (Q8 T s).lv = s.lv := by unfold Q8; split <;> rfl
theorem Qy (T : List Tok) (x : List UInt8) (s : St) : (Q7 T x s).lv = s.lv := by unfold Q7; rw [Qp]; split <;> simp [Q4p]
section
variable {res : List UInt8 → Bool} {T : List Tok}
theorem Q4i (s : St) : (Q14 res T s).2.lv = s.lv := by unfold Q14; dsimp only; rw [Qp]; split <;> simp [Q4p]
theorem Q32 (s : St) : (Qd T s).2.lv = s.lv := by unfold Qd; dsimp only; rw [Qp]; split <;> simp [Q4p]
theorem Q08 (s : St) : (Qo T s).lv = s.lv + 1 := by unfold Qo; split <;> simp [Q4p, mUp]
theorem Q2k (s : St) : (mPop s).lv = s.lv - 1 := rfl
theorem Qtd (s : St) : (Q8 T s).er = s.er := by unfold Q8; split <;> rfl
theorem Q0r {s : St} (h : (Q8 T s).er = 0) : s.er = 0 := Qtd s ▸ h
theorem Q5g {s : St} (h : (Qq T 4 s).er = 0) : s.er = 0 := by
 unfold Qq at h
 split at h
 ·assumption
 ·exact h
theorem Qdm {s : St} (h : (Qq T 12 s).er = 0) : s.er = 0 := by
 unfold Qq at h
 split at h
 ·assumption
 ·exact h
theorem Q0j {w : List UInt8} {s : St} (h : (Q7 T w s).er = 0) : s.er = 0 := by
 unfold Q7 at h
 replace h := Q0r h
 split at h
 ·exact h
 ·exact Q5g h
theorem Q7p {s : St} (h : (Q14 res T s).2.er = 0) : s.er = 0 := by
 unfold Q14 at h
 replace h := Q0r h
 split at h
 ·exact h
 ·exact Q5g h
theorem Q3f {s : St} (h : (Qd T s).2.er = 0) : s.er = 0 := by
 unfold Qd at h
 replace h := Q0r h
 split at h
 ·exact h
 ·exact Q5g h
theorem Q2h {s : St} (h : (Qo T s).er = 0) : s.er = 0 := by
 unfold Qo at h
 split at h
 ·exact show (mUp s).er = 0 from Qdm h
 ·exact h
theorem Q3z {s : St} (h : (mPop s).er = 0) : s.er = 0 := h
def Lv (s : St) : Prop := s.er = 0 → s.lv ≤ 128
theorem Lv.take {s : St} (h : Lv s) : Lv (Q8 T s) := fun e => by rw [Qp]; exact h (Q0r e)
theorem Lv.need {w : List UInt8} {s : St} (h : Lv s) : Lv (Q7 T w s) := fun e => by rw [Qy]; exact h (Q0j e)
theorem Lv.fail {s : St} (h : Lv s) : Lv (Qq T 4 s) := fun e => by rw [Q4p]; exact h (Q5g e)
theorem Lv.name {s : St} (h : Lv s) : Lv (Q14 res T s).2 := fun e => by rw [Q4i]; exact h (Q7p e)
theorem Lv.number {s : St} (h : Lv s) : Lv (Qd T s).2 := fun e => by rw [Q32]; exact h (Q3f e)
theorem Lv.push (s : St) : Lv (Qo T s) := fun e => by
 unfold Qo at e ⊢
 split at e
 ·rename_i h
  have h0 := Qdm e
  unfold Qq at e
  rw [if_pos h0] at e
  cases e
 ·rename_i h
  rw [if_neg h]
  unfold mUp
  dsimp only
  omega
def Q5t {α : Type} (m : St → Option (α × St)) : Prop := ∀ s t s', m s = some (t, s') → s'.lv = s.lv ∧ (s'.er = 0 → s.er = 0)
abbrev Tame (m : MRd) : Prop := Q5t m
theorem Q5t.lv {α : Type} {m : St → Option (α × St)} (hm : Q5t m) {s s' : St} {t : α} (h : m s = some (t, s')) (hl : Lv s) : Lv s' := fun e => by
 obtain ⟨h1, h2⟩ := hm _ _ _ h
 rw [h1]; exact hl (h2 e)
theorem Q0l {α β : Type} {m : St → Option (α × St)} (hm : Q5t m) {s s1 s' : St} {t : β} {k : α × St → Option (β × St)} (h : (m s1).bind k = some (t, s'))
  (hk : ∀ p, k p = some (t, s') → s1.lv - s.lv = s1.lv - s.lv → p.2.lv = s1.lv → (p.2.er = 0 → s1.er = 0) → s'.lv = s.lv ∧ (s'.er = 0 → s.er = 0)) : s'.lv = s.lv ∧ (s'.er = 0 → s.er = 0) := by
 obtain ⟨p, hp, he⟩ := Option.bind_eq_some_iff.1 h
 obtain ⟨a1, a2⟩ := hm s1 p.1 p.2 hp
 exact hk p he rfl a1 a2
theorem Qip {r : MRd} {ops : List (List UInt8)} (hr : Tame r) (g : Nat) : ∀ x, Tame (Q3d T r ops g x) := by
 induction g with
 | zero => intro x s t s' h; cases h
 | succ g ih =>
  intro x s t s' h
  rw [Q3d] at h
  split at h
  ·refine Q0l hr h fun p hp _ h1 h2 => ?_
   obtain ⟨a1, a2⟩ := ih _ _ _ _ hp
   rw [Qp] at h1
   exact ⟨a1.trans h1, fun e => Q0r (h2 (a2 e))⟩
  ·cases h; exact ⟨rfl, id⟩
theorem Q4y {r : MRd} {ops : List (List UInt8)} (hr : Tame r) : Tame (Q2l T r ops) := fun s t s' h => by
 unfold Q2l at h
 split at h
 ·cases h; exact ⟨rfl, id⟩
 ·refine Q0l hr h fun p hp _ h1 h2 => ?_
  obtain ⟨a1, a2⟩ := Qip hr _ _ _ _ _ hp
  exact ⟨a1.trans h1, fun e => h2 (a2 e)⟩
theorem Ql7 (g : Nat) : ∀ xs, Q5t (Q2v T g xs) := by
 induction g with
 | zero => intro x s t s' h; cases h
 | succ g ih =>
  intro x s t s' h
  rw [Q2v] at h
  split at h
  ·obtain ⟨a1, a2⟩ := ih _ _ _ _ h
   rw [Q32, Qp] at a1
   exact ⟨a1, fun e => Q0r (Q3f (a2 e))⟩
  ·cases h; exact ⟨rfl, id⟩
theorem Q8z : Tame (mSet T) := fun s t s' h => by
 unfold mSet at h
 split at h
 ·cases h; exact ⟨Qp _ _, fun e => Q0r e⟩
 split at h
 ·refine Q0l (Ql7 _ _) h fun p hp _ h1 h2 => ?_
  cases hp
  rw [Q32, Qy] at h1
  exact ⟨(Qy _ _ _).trans h1, fun e => Q0j (Q3f (h2 (Q0j e)))⟩
 ·cases h; exact ⟨by rw [Qy, Qy], fun e => Q0j (Q0j e)⟩
theorem Qem {fo : MRd} (hf : Tame fo) (w : List UInt8) : Q5t (Q06 T fo w) := fun s t s' h => by
 unfold Q06 at h
 split at h
 ·cases h; exact ⟨by rw [Q32, Qy, Q32], fun e => Q3f (Q0j (Q3f e))⟩
 split at h
 ·cases h; exact ⟨by rw [Q32], fun e => Q3f e⟩
 split at h
 ·refine Q0l hf h fun p hp _ h1 h2 => ?_
  cases hp
  rw [Qy, Q32] at h1
  exact ⟨h1, fun e => Q3f (Q0j (h2 e))⟩
 split at h
 ·refine Q0l Q8z h fun p hp _ h1 h2 => ?_
  refine Q0l hf hp fun q hq _ h3 h4 => ?_
  cases hq
  rw [Qy] at h3
  exact ⟨h3.trans h1, fun e => h2 (Q0j (h4 e))⟩
 ·refine Q0l hf h fun p hp _ h1 h2 => ?_
  cases hp
  exact ⟨h1, h2⟩
theorem Q8a (f : Nat) : ∀ nt, Tame (mrd res T f nt) := by
 induction f with
 | zero => intro nt s t s' h; cases h
 | succ f ih =>
  intro nt
  cases nt with
  | cond => exact Q4y (ih _)
  | conj => exact Q4y (ih _)
  | sum => exact Q4y (ih _)
  | scheme => exact Q4y (ih _)
  | term => exact Q4y (ih _)
  | disj => exact Q4y (ih _)
  | meet => exact Q4y (ih _)
  | neg =>
   intro s t s' h
   rw [mrd] at h
   dsimp only at h
   split at h
   ·cases h; exact ⟨rfl, id⟩
   split at h
   ·refine Q0l (ih _) h fun p hp _ h1 h2 => ?_
    cases hp
    rw [Q08, Qp] at h1
    exact ⟨by rw [Q2k, h1]; rfl, fun e => Q0r (Q2h (h2 e))⟩
   split at h
   ·refine Q0l (ih _) h fun p hp _ h1 h2 => ?_
    cases hp
    rw [Q08, Qy, Q4i, Qp] at h1
    exact ⟨by rw [Q2k, h1]; rfl, fun e => Q0r (Q7p (Q0j (Q2h (h2 e))))⟩
   ·refine Q0l (ih _) h fun p hp _ h1 h2 => ?_
    split at hp
    ·refine Q0l (ih _) hp fun q hq _ h3 h4 => ?_
     cases hq
     rw [Qp] at h3
     exact ⟨h3.trans h1, fun e => h2 (Q0r (h4 e))⟩
    ·cases hp; exact ⟨h1, h2⟩
  | unit =>
   intro s t s' h
   rw [mrd] at h
   dsimp only at h
   split at h
   ·cases h; exact ⟨rfl, id⟩
   split at h
   ·cases h; exact ⟨Q32 _, Q3f⟩
   split at h
   ·cases h; exact ⟨Q4i _, Q7p⟩
   split at h
   ·refine Q0l (ih _) h fun p hp _ h1 h2 => ?_
    cases hp
    rw [Q08, Qp] at h1
    exact ⟨by rw [Qy, Q2k, h1]; rfl, fun e => Q0r (Q2h (h2 (Q3z (Q0j e))))⟩
   split at h
   ·refine Q0l (ih _) h fun p hp _ h1 h2 => ?_
    cases hp
    rw [Q08, Qy, Qp] at h1
    exact ⟨by rw [Qy, Q2k, h1]; rfl, fun e => Q0r (Q0j (Q2h (h2 (Q3z (Q0j e)))))⟩
   split at h
   ·refine Q0l (ih _) h fun p hp _ h1 h2 => ?_
    refine Q0l (ih _) hp fun q hq _ h3 h4 => ?_
    cases hq
    rw [Q08, Qy, Qp] at h1
    rw [Qy] at h3
    exact ⟨by rw [Qy, Q2k, h3, h1]; rfl, fun e => Q0r (Q0j (Q2h (h2 (Q0j (h4 (Q3z (Q0j e)))))))⟩
   split at h
   ·refine Q0l (ih _) h fun p hp _ h1 h2 => ?_
    cases hp
    rw [Q08, Qy, Q4i, Qp] at h1
    exact ⟨by rw [Qy, Q2k, h1]; rfl, fun e => Q0r (Q7p (Q0j (Q2h (h2 (Q3z (Q0j e))))))⟩
   ·cases h; exact ⟨Q4p _ _ _, Q5g⟩
  | factor =>
   intro s t s' h
   rw [mrd] at h
   dsimp only at h
   split at h
   ·cases h; exact ⟨rfl, id⟩
   refine Q0l (ih _) h fun p hp _ h1 h2 => ?_
   split at hp
   ·refine Q0l (ih _) hp fun q hq _ h3 h4 => ?_
    cases hq
    rw [Q08, Q32, Qp] at h3
    exact ⟨by rw [Q2k, h3, h1]; rfl, fun e => h2 (Q0r (Q3f (Q2h (h4 e))))⟩
   ·cases hp; exact ⟨h1, h2⟩
  | atom =>
   intro s t s' h
   rw [mrd] at h
   dsimp only at h
   split at h
   ·cases h; exact ⟨Q4i _, Q7p⟩
   split at h
   ·cases h
    exact ⟨by rw [Qy, Q2k, Q32, Q08, Qy, Qp]; rfl, fun e => Q0r (Q0j (Q2h (Q3f (Q3z (Q0j e)))))⟩
   split at h
   ·cases h; exact ⟨Qp _ _, Q0r⟩
   split at h
   ·refine Q0l (ih _) h fun p hp _ h1 h2 => ?_
    cases hp
    rw [Q08, Qy, Qp] at h1
    exact ⟨by rw [Qy, Q2k, h1]; rfl, fun e => Q0r (Q0j (Q2h (h2 (Q3z (Q0j e)))))⟩
   split at h
   ·refine Q0l (ih _) h fun p hp _ h1 h2 => ?_
    cases hp
    rw [Q08, Qp] at h1
    exact ⟨by rw [Qy, Q2k, h1]; rfl, fun e => Q0r (Q2h (h2 (Q3z (Q0j e))))⟩
   ·cases h; exact ⟨Q4p _ _ _, Q5g⟩
  | formula =>
   intro s t s' h
   rw [mrd] at h
   dsimp only at h
   refine Q0l (ih _) h fun p hp _ h1 h2 => ?_
   split at hp
   ·refine Q0l (ih _) hp fun q hq _ h3 h4 => ?_
    cases hq
    rw [Q08, Qp] at h3
    exact ⟨by rw [Q2k, h3, h1]; rfl, fun e => h2 (Q0r (Q2h (h4 e)))⟩
   ·cases hp; exact ⟨h1, h2⟩
  | lit =>
   intro s t s' h
   rw [mrd] at h
   dsimp only at h
   split at h
   ·cases h; exact ⟨rfl, id⟩
   split at h
   ·refine Q0l (ih _) h fun p hp _ h1 h2 => ?_
    cases hp
    rw [Q08, Qp] at h1
    exact ⟨by rw [Q2k, h1]; rfl, fun e => Q0r (Q2h (h2 e))⟩
   split at h
   ·cases h; exact ⟨Qp _ _, Q0r⟩
   split at h
   ·refine Q0l (ih _) h fun p hp _ h1 h2 => ?_
    cases hp
    rw [Q08, Qp] at h1
    exact ⟨by rw [Qy, Q2k, h1]; rfl, fun e => Q0r (Q2h (h2 (Q3z (Q0j e))))⟩
   split at h
   ·refine Q0l (Qem (ih _) _) h fun p hp _ h1 h2 => ?_
    cases hp
    rw [Q08, Qy, Qp] at h1
    exact ⟨by rw [Qy, Q2k, h1]; rfl, fun e => Q0r (Q0j (Q2h (h2 (Q3z (Q0j e)))))⟩
   ·cases h; exact ⟨Q4p _ _ _, Q5g⟩
end
end
end Go.Proofs.YtplbfmcgddnkeaaGreatDoor
