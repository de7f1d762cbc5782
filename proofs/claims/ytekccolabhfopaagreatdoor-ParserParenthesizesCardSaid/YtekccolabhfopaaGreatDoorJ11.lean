/- Joined: SimC, PlainO, Join. -/
import Derived.Test.YtekccolabhfopaaGreatDoorJ10
import Derived.Test.YtekccolabhfopaaGreatDoorJ01
set_option linter.unusedVariables false
set_option linter.unusedSimpArgs false
section
/- Plain facts: declarations, programs and whole texts: the reference's steps come to what the readers say, and fuel enough; no program in sight. -/
namespace Go.Proofs.YtekccolabhfopaaGreatDoor
section
variable {res : List UInt8 → Bool} {T : List Tok} {lv lv' i f : Nat} {a : Int}
/-- A declaration but for its semicolon. -/
def declHd (res : List UInt8 → Bool) (T : List Tok) (f : Nat) : Rd := fun lv i =>
  if isW T [[116, 97, 115, 107]] i then
    (name res T (nx T i)).bind fun nm j => (need T [105, 110, 112, 117, 116, 115] j).bind fun _ j => (number T j).bind fun a j => (need T [111, 117, 116, 112, 117, 116, 115] j).bind fun _ j =>
    (number T j).bind fun b j => (optPart res T f [119, 104, 101, 114, 101] 2 [b] lv j).bind fun xs j =>
    if isW T [[97, 108, 108, 111, 119]] j then (part res T f 3 lv j).bind fun y j => (optPart res T f [99, 97, 108, 109] 4 (xs ++ [y]) lv j).bind fun ys j => .ok (Syn.mk 1 nm.text a.num (tk T i).pos ys) j
    else fail T 4 j
  else if isW T [[97, 100, 118, 101, 114, 115, 97, 114, 121]] i then
    (name res T (nx T i)).bind fun nm j => (need T [61] j).bind fun _ j => (rd res T f .scheme lv j).bind fun x j => .ok (Syn.mk 5 nm.text 0 (tk T i).pos [x]) j
  else if isW T [[102, 111, 114, 109, 117, 108, 97]] i then
    (name res T (nx T i)).bind fun nm j => (need T [61] j).bind fun _ j => (rd res T f .formula lv j).bind fun x j => .ok (Syn.mk 6 nm.text 0 (tk T i).pos [x]) j
  else if isW T [[112, 114, 111, 98, 108, 101, 109]] i then
    (name res T (nx T i)).bind fun nm j => (need T [61] j).bind fun _ j => (name res T j).bind fun a j => (need T [117, 110, 100, 101, 114] j).bind fun _ j => (name res T j).bind fun b j =>
    (need T [114, 111, 117, 110, 100, 115] j).bind fun _ j => (number T j).bind fun n j => .ok (Syn.mk 7 nm.text n.num (tk T i).pos [a, b]) j
  else fail T 4 i
theorem head_eq : declaration res T f lv i = (declHd res T f lv i).bind fun x j => (need T [59] j).bind fun _ j => .ok x j := rfl
theorem part_on {k : Int} (hl : (tk T (T.length - 1)).kind = 3) (hi : i < T.length) (hk : (tk T i).kind ≠ 3) : On T i (part res T f k lv i) :=
  On.behind hl hi hk fun j _ h2 e => by
    unfold part
    rw [e]
    exact ((rd_on hl f _ _ _ h2).bind fun _ _ _ h => On0.ok h).zero
theorem opt_on {w : List UInt8} {k : Int} {xs : List Syn} (hl : (tk T (T.length - 1)).kind = 3) (hi : i < T.length) : On0 T i (optPart res T f w k xs lv i) := by
  unfold optPart
  split
  · rename_i h; exact ((part_on hl hi (isW_kind h)).bind fun _ _ _ h => On0.ok h).zero
  · exact On0.ok hi
theorem head_on (hl : (tk T (T.length - 1)).kind = 3) (hi : i < T.length) : On T i (declHd res T f lv i) := by
  unfold declHd
  split
  · rename_i h
    refine On.behind hl hi (isW_kind h) fun j _ h2 e => ?_
    rw [e]
    refine ((name_on hl h2).bind fun _ _ _ h => ((need_on hl _ h).bind fun _ _ _ h => ((number_on hl h).bind fun _ _ _ h => ((need_on hl _ h).bind fun _ _ _ h => ((number_on hl h).bind fun _ _ _ h => (opt_on hl h).bind fun _ j _ h => ?_).zero).zero).zero).zero).zero
    split
    · rename_i hw
      exact ((part_on hl h (isW_kind hw)).bind fun _ _ _ h => (opt_on hl h).bind fun _ _ _ h => On0.ok h).zero
    · exact (On.fail _).zero
  split
  · rename_i h
    refine On.behind hl hi (isW_kind h) fun j _ h2 e => ?_
    rw [e]
    exact ((name_on hl h2).bind fun _ _ _ h => ((need_on hl _ h).bind fun _ _ _ h => ((rd_on hl f _ _ _ h).bind fun _ _ _ h => On0.ok h).zero).zero).zero
  split
  · rename_i h
    refine On.behind hl hi (isW_kind h) fun j _ h2 e => ?_
    rw [e]
    exact ((name_on hl h2).bind fun _ _ _ h => ((need_on hl _ h).bind fun _ _ _ h => ((rd_on hl f _ _ _ h).bind fun _ _ _ h => On0.ok h).zero).zero).zero
  split
  · rename_i h
    refine On.behind hl hi (isW_kind h) fun j _ h2 e => ?_
    rw [e]
    exact ((name_on hl h2).bind fun _ _ _ h => ((need_on hl _ h).bind fun _ _ _ h => ((name_on hl h).bind fun _ _ _ h => ((need_on hl _ h).bind fun _ _ _ h => ((name_on hl h).bind fun _ _ _ h => ((need_on hl _ h).bind fun _ _ _ h => ((number_on hl h).bind fun _ _ _ h => On0.ok h).zero).zero).zero).zero).zero).zero).zero
  · exact On.fail _
theorem decl_on (hl : (tk T (T.length - 1)).kind = 3) (hi : i < T.length) : On T i (declaration res T f lv i) :=
  (head_on hl hi).bind fun _ _ _ h => ((need_on hl _ h).bind fun _ _ _ h => On0.ok h).zero
theorem part_er {k : Int} {w : List UInt8} {s : St} (h : s.er ≠ 0) : ∃ t, mPart res T (f + 2) k w s = some (t, s) := by
  obtain ⟨u, hu⟩ := mrd_idle (res := res) (T := T) f .cond s h
  exact ⟨_, by unfold mPart; rw [mNeed_er h, hu]; rfl⟩
theorem opt_er {k : Int} {w : List UInt8} {xs : List Syn} {s : St} (h : s.er ≠ 0) : ∃ t, mOpt res T (f + 2) k w xs s = some (t, s) := by
  unfold mOpt
  split
  · obtain ⟨u, hu⟩ := part_er (res := res) (T := T) (f := f) (k := k) (w := w) h
    exact ⟨_, by rw [hu]; rfl⟩
  · exact ⟨_, rfl⟩
theorem part_rel (hT : TokOk T) (hW : Words res) {k : Int} {w : List UInt8} (hi : i < T.length) (hw : isW T [w] i = true) : Rel (part res T f k lv i) (mPart res T (f + 2) k w ⟨i, lv, 0, a⟩) lv a := by
  unfold part mPart mNeed
  rw [if_pos hw, mTake_ok hT.last hi (isW_kind hw)]
  obtain ⟨q1, q2⟩ := nx_on hT.last hi (isW_kind hw)
  exact (rd_rel hT hW f .cond lv _ a (by omega)).bind (fun x j _ => rfl) fun t i' e p he => ⟨_, _, rfl⟩
theorem allow_rel (hT : TokOk T) (hW : Words res) (hi : i < T.length) : Rel (if isW T [[97, 108, 108, 111, 119]] i then part res T f 3 lv i else fail T 4 i) (mPart res T (f + 2) 3 [97, 108, 108, 111, 119] ⟨i, lv, 0, a⟩) lv a := by
  cases hb : isW T [[97, 108, 108, 111, 119]] i
  · rw [if_neg Bool.false_ne_true]
    unfold mPart mNeed
    rw [if_neg (by rw [hb]; decide), mTake_er (by unfold mFail; simp)]
    refine Rel.fail (M := fun s => (mrd res T (f + 2) .cond s).bind fun p => some (Syn.mk 3 [] 0 (tk T i).pos [p.1], p.2)) 4 (by decide) fun i' e p he => ?_
    obtain ⟨u, hu⟩ := mrd_idle (res := res) (T := T) f .cond ⟨i', lv, e, p⟩ he
    exact ⟨_, _, by (try dsimp only); rw [hu]; rfl⟩
  · rw [if_pos (rfl : true = true)]
    exact part_rel hT hW hi hb
theorem opt_rel (hT : TokOk T) (hW : Words res) {k : Int} {w : List UInt8} {xs : List Syn} (hi : i < T.length) : Rel (optPart res T f w k xs lv i) (mOpt res T (f + 2) k w xs ⟨i, lv, 0, a⟩) lv a := by
  unfold optPart mOpt
  cases hb : isW T [w] i
  · rw [if_neg Bool.false_ne_true, if_neg Bool.false_ne_true]
    exact rfl
  · rw [if_pos (rfl : true = true), if_pos (rfl : true = true)]
    exact (part_rel hT hW hi hb).bind (fun x j _ => rfl) fun t i' e p he => ⟨_, _, rfl⟩
theorem if_bind {α β : Type} {c : Bool} {A B : Out α} {k : α → Nat → Out β} : (if c then A else B).bind k = if c then A.bind k else B.bind k := by cases c <;> rfl
theorem allow_bind {k : Syn → Nat → Out Syn} {j : Nat} : (if isW T [[97, 108, 108, 111, 119]] j then (part res T f 3 lv j).bind k else fail T 4 j) = (if isW T [[97, 108, 108, 111, 119]] j then part res T f 3 lv j else fail T 4 j).bind k := by
  rw [if_bind]; rfl
theorem decl_rel (hT : TokOk T) (hW : Words res) (hi : i < T.length) : Rel (declaration res T f lv i) (mDecl res T (f + 2) ⟨i, lv, 0, a⟩) lv a := by
  have hl := hT.last
  rw [head_eq]
  unfold mDecl
  have hid := fun nt => mrd_idle (res := res) (T := T) f nt
  refine Rel.bind (lv := lv) (a := a) ?_ (fun x j hx => Rel.need (M := fun s => some (x, s)) hl (head_on hl hi _ _ hx).2 (fun _ _ => rfl) fun i' e p he => ⟨_, _, rfl⟩) fun t i' e p he => ⟨_, _, by (try dsimp only); rw [mNeed_er (by exact he)]⟩
  unfold declHd
  dsimp only
  have hAdv : ∀ nt k, Rel ((name res T (nx T i)).bind fun nm j => (need T [61] j).bind fun _ j => (rd res T f nt lv j).bind fun x j => .ok (Syn.mk k nm.text 0 (tk T i).pos [x]) j)
      ((mrd res T (f + 2) nt (mNeed T [61] (mName res T (mTake T ⟨i, lv, 0, a⟩)).2)).bind fun p => some (Syn.mk k (mName res T (mTake T ⟨i, lv, 0, a⟩)).1.text 0 (tk T i).pos [p.1], p.2)) lv a ∨ (tk T i).kind = 3 := by
    intro nt k
    by_cases hk3 : (tk T i).kind = 3
    · exact .inr hk3
    left
    obtain ⟨q1, q2⟩ := nx_on hl hi hk3
    rw [mTake_ok hl hi hk3]
    refine Rel.name (M := fun n => (mrd res T (f + 2) nt (mNeed T [61] n.2)).bind fun p => some (Syn.mk k n.1.text 0 (tk T i).pos [p.1], p.2)) hl (by omega) (fun h => ?_) fun t i' e p he => ?_
    · refine Rel.need (M := fun s => (mrd res T (f + 2) nt s).bind fun p => some (Syn.mk k _ 0 (tk T i).pos [p.1], p.2)) hl h (fun _ h => ?_) fun i' e p he => ?_
      · exact (rd_rel hT hW f nt lv _ a h).bind (fun x j _ => rfl) fun t i' e p he => ⟨_, _, rfl⟩
      · obtain ⟨u, hu⟩ := hid nt ⟨i', lv, e, p⟩ he
        exact ⟨_, _, by (try dsimp only); rw [hu]; rfl⟩
    · obtain ⟨u, hu⟩ := hid nt ⟨i', lv, e, p⟩ he
      exact ⟨_, _, by (try dsimp only); rw [mNeed_er (by exact he), hu]; rfl⟩
  cases h1 : isW T [[116, 97, 115, 107]] i
  · rw [if_neg Bool.false_ne_true, if_neg Bool.false_ne_true]
    cases h2 : isW T [[97, 100, 118, 101, 114, 115, 97, 114, 121]] i
    · rw [if_neg Bool.false_ne_true, if_neg Bool.false_ne_true]
      cases h3 : isW T [[102, 111, 114, 109, 117, 108, 97]] i
      · rw [if_neg Bool.false_ne_true, if_neg Bool.false_ne_true]
        cases h4 : isW T [[112, 114, 111, 98, 108, 101, 109]] i
        · rw [if_neg Bool.false_ne_true, if_neg Bool.false_ne_true]
          exact fail_rel _
        · rw [if_pos (rfl : true = true), if_pos (rfl : true = true)]
          have hk3 := isW_kind h4
          obtain ⟨q1, q2⟩ := nx_on hl hi hk3
          rw [mTake_ok hl hi hk3]
          have e1 : ∀ s : St, s.er ≠ 0 → (mNumber T (mNeed T [114, 111, 117, 110, 100, 115] s)).2 = s := fun s h => by rw [mNeed_er h, mNumber_er h]
          have e2 : ∀ s : St, s.er ≠ 0 → (mName res T (mNeed T [117, 110, 100, 101, 114] s)).2 = s := fun s h => by rw [mNeed_er h, mName_er h]
          have e3 : ∀ s : St, s.er ≠ 0 → (mName res T (mNeed T [61] s)).2 = s := fun s h => by rw [mNeed_er h, mName_er h]
          refine Rel.name (M := fun n => some (Syn.mk 7 n.1.text (mNumber T (mNeed T [114, 111, 117, 110, 100, 115] (mName res T (mNeed T [117, 110, 100, 101, 114] (mName res T (mNeed T [61] n.2)).2)).2)).1.num (tk T i).pos [(mName res T (mNeed T [61] n.2)).1, (mName res T (mNeed T [117, 110, 100, 101, 114] (mName res T (mNeed T [61] n.2)).2)).1],
            (mNumber T (mNeed T [114, 111, 117, 110, 100, 115] (mName res T (mNeed T [117, 110, 100, 101, 114] (mName res T (mNeed T [61] n.2)).2)).2)).2)) hl (by omega) (fun h => ?_) fun t i' e p he => ⟨_, _, by have h' : (St.mk i' lv e p).er ≠ 0 := he; dsimp only; simp only [mName_er h', mNeed_er h', mNumber_er h']; try rfl⟩
          dsimp only
          refine Rel.need (M := fun s => some (Syn.mk 7 _ (mNumber T (mNeed T [114, 111, 117, 110, 100, 115] (mName res T (mNeed T [117, 110, 100, 101, 114] (mName res T s).2)).2)).1.num (tk T i).pos [(mName res T s).1, (mName res T (mNeed T [117, 110, 100, 101, 114] (mName res T s).2)).1],
            (mNumber T (mNeed T [114, 111, 117, 110, 100, 115] (mName res T (mNeed T [117, 110, 100, 101, 114] (mName res T s).2)).2)).2)) hl h (fun _ h => ?_) fun i' e p he => ⟨_, _, by have h' : (St.mk i' lv e p).er ≠ 0 := he; dsimp only; simp only [mName_er h', mNeed_er h', mNumber_er h']; try rfl⟩
          refine Rel.name (M := fun n => some (Syn.mk 7 _ (mNumber T (mNeed T [114, 111, 117, 110, 100, 115] (mName res T (mNeed T [117, 110, 100, 101, 114] n.2)).2)).1.num (tk T i).pos [n.1, (mName res T (mNeed T [117, 110, 100, 101, 114] n.2)).1],
            (mNumber T (mNeed T [114, 111, 117, 110, 100, 115] (mName res T (mNeed T [117, 110, 100, 101, 114] n.2)).2)).2)) hl h (fun h => ?_) fun t i' e p he => ⟨_, _, by have h' : (St.mk i' lv e p).er ≠ 0 := he; dsimp only; simp only [mName_er h', mNeed_er h', mNumber_er h']; try rfl⟩
          refine Rel.need (M := fun s => some (Syn.mk 7 _ (mNumber T (mNeed T [114, 111, 117, 110, 100, 115] (mName res T s).2)).1.num (tk T i).pos [_, (mName res T s).1], (mNumber T (mNeed T [114, 111, 117, 110, 100, 115] (mName res T s).2)).2)) hl h (fun _ h => ?_) fun i' e p he => ⟨_, _, by (try dsimp only); rw [mName_er (by exact he), e1 _ he]⟩
          refine Rel.name (M := fun n => some (Syn.mk 7 _ (mNumber T (mNeed T [114, 111, 117, 110, 100, 115] n.2)).1.num (tk T i).pos [_, n.1], (mNumber T (mNeed T [114, 111, 117, 110, 100, 115] n.2)).2)) hl h (fun h => ?_) fun t i' e p he => ⟨_, _, by have h' : (St.mk i' lv e p).er ≠ 0 := he; dsimp only; simp only [mName_er h', mNeed_er h', mNumber_er h']; try rfl⟩
          refine Rel.need (M := fun s => some (Syn.mk 7 _ (mNumber T s).1.num (tk T i).pos [_, _], (mNumber T s).2)) hl h (fun _ h => ?_) fun i' e p he => ⟨_, _, by (try dsimp only); rw [mNumber_er (by exact he)]⟩
          exact Rel.number (M := fun n => some (Syn.mk 7 _ n.1.num (tk T i).pos [_, _], n.2)) hT h (fun h => rfl) fun t i' e p he => ⟨_, _, rfl⟩
      · rw [if_pos (rfl : true = true), if_pos (rfl : true = true)]
        exact (hAdv .formula 6).resolve_right (isW_kind h3)
    · rw [if_pos (rfl : true = true), if_pos (rfl : true = true)]
      exact (hAdv .scheme 5).resolve_right (isW_kind h2)
  · rw [if_pos (rfl : true = true), if_pos (rfl : true = true)]
    clear hAdv
    have hk3 := isW_kind h1
    obtain ⟨q1, q2⟩ := nx_on hl hi hk3
    rw [mTake_ok hl hi hk3]
    simp only [allow_bind]
    -- what comes behind the second number
    have hC : ∀ (nm : List UInt8) (an : Int) (xs : List Syn) j, j < T.length → Rel ((if isW T [[97, 108, 108, 111, 119]] j then part res T f 3 lv j else fail T 4 j).bind fun y j => (optPart res T f [99, 97, 108, 109] 4 (xs ++ [y]) lv j).bind fun ys j => .ok (Syn.mk 1 nm an (tk T i).pos ys) j)
        ((mPart res T (f + 2) 3 [97, 108, 108, 111, 119] ⟨j, lv, 0, a⟩).bind fun q => (mOpt res T (f + 2) 4 [99, 97, 108, 109] (xs ++ [q.1]) q.2).bind fun r => some (Syn.mk 1 nm an (tk T i).pos r.1, r.2)) lv a := by
      intro nm an xs j hj
      refine (allow_rel hT hW hj).bind (fun y l hy => ?_) fun t i' e p he => ?_
      · have hl' : l < T.length := by
          split at hy
          · rename_i hw; exact (part_on hl hj (isW_kind hw) _ _ hy).2
          · cases hy
        exact (opt_rel hT hW hl').bind (fun ys _ _ => rfl) fun t i' e p he => ⟨_, _, rfl⟩
      · obtain ⟨u, hu⟩ := opt_er (res := res) (T := T) (f := f) (k := 4) (w := [99, 97, 108, 109]) (xs := xs ++ [t]) (s := ⟨i', lv, e, p⟩) he
        exact ⟨_, _, by (try dsimp only); rw [hu]; rfl⟩
    have eC : ∀ (nm : List UInt8) (an : Int) (xs : List Syn) (s : St), s.er ≠ 0 → ∃ t, ((mPart res T (f + 2) 3 [97, 108, 108, 111, 119] s).bind fun q => (mOpt res T (f + 2) 4 [99, 97, 108, 109] (xs ++ [q.1]) q.2).bind fun r => some (Syn.mk 1 nm an (tk T i).pos r.1, r.2)) = some (t, s) := by
      intro nm an xs s he
      obtain ⟨u, hu⟩ := part_er (res := res) (T := T) (f := f) (k := 3) (w := [97, 108, 108, 111, 119]) he
      obtain ⟨v, hv⟩ := opt_er (res := res) (T := T) (f := f) (k := 4) (w := [99, 97, 108, 109]) (xs := xs ++ [u]) he
      exact ⟨_, by rw [hu, Option.bind_some, hv]; rfl⟩
    have eB : ∀ (nm : List UInt8) (an : Int) (xs : List Syn) (s : St), s.er ≠ 0 → ∃ t, ((mOpt res T (f + 2) 2 [119, 104, 101, 114, 101] xs s).bind fun p => (mPart res T (f + 2) 3 [97, 108, 108, 111, 119] p.2).bind fun q => (mOpt res T (f + 2) 4 [99, 97, 108, 109] (p.1 ++ [q.1]) q.2).bind fun r => some (Syn.mk 1 nm an (tk T i).pos r.1, r.2)) = some (t, s) := by
      intro nm an xs s he
      obtain ⟨u, hu⟩ := opt_er (res := res) (T := T) (f := f) (k := 2) (w := [119, 104, 101, 114, 101]) (xs := xs) he
      obtain ⟨v, hv⟩ := eC nm an u s he
      exact ⟨v, by rw [hu, Option.bind_some]; exact hv⟩
    have hB : ∀ (nm : List UInt8) (an : Int) (xs : List Syn) j, j < T.length → Rel ((optPart res T f [119, 104, 101, 114, 101] 2 xs lv j).bind fun xs j => (if isW T [[97, 108, 108, 111, 119]] j then part res T f 3 lv j else fail T 4 j).bind fun y j => (optPart res T f [99, 97, 108, 109] 4 (xs ++ [y]) lv j).bind fun ys j => .ok (Syn.mk 1 nm an (tk T i).pos ys) j)
        ((mOpt res T (f + 2) 2 [119, 104, 101, 114, 101] xs ⟨j, lv, 0, a⟩).bind fun p => (mPart res T (f + 2) 3 [97, 108, 108, 111, 119] p.2).bind fun q => (mOpt res T (f + 2) 4 [99, 97, 108, 109] (p.1 ++ [q.1]) q.2).bind fun r => some (Syn.mk 1 nm an (tk T i).pos r.1, r.2)) lv a := by
      intro nm an xs j hj
      refine (opt_rel hT hW hj).bind (fun ys l hy => hC nm an ys l (opt_on hl hj _ _ hy).2) fun t i' e p he => ?_
      obtain ⟨u, hu⟩ := eC nm an t ⟨i', lv, e, p⟩ he
      exact ⟨u, i', hu⟩
    refine Rel.name (M := fun n => (mOpt res T (f + 2) 2 [119, 104, 101, 114, 101] [(mNumber T (mNeed T [111, 117, 116, 112, 117, 116, 115] (mNumber T (mNeed T [105, 110, 112, 117, 116, 115] n.2)).2)).1] (mNumber T (mNeed T [111, 117, 116, 112, 117, 116, 115] (mNumber T (mNeed T [105, 110, 112, 117, 116, 115] n.2)).2)).2).bind fun p =>
      (mPart res T (f + 2) 3 [97, 108, 108, 111, 119] p.2).bind fun q => (mOpt res T (f + 2) 4 [99, 97, 108, 109] (p.1 ++ [q.1]) q.2).bind fun r => some (Syn.mk 1 n.1.text (mNumber T (mNeed T [105, 110, 112, 117, 116, 115] n.2)).1.num (tk T i).pos r.1, r.2)) hl (by omega) (fun h => ?_) fun t i' e p he => ?_
    · dsimp only
      refine Rel.need (M := fun s => (mOpt res T (f + 2) 2 [119, 104, 101, 114, 101] [(mNumber T (mNeed T [111, 117, 116, 112, 117, 116, 115] (mNumber T s).2)).1] (mNumber T (mNeed T [111, 117, 116, 112, 117, 116, 115] (mNumber T s).2)).2).bind fun p =>
        (mPart res T (f + 2) 3 [97, 108, 108, 111, 119] p.2).bind fun q => (mOpt res T (f + 2) 4 [99, 97, 108, 109] (p.1 ++ [q.1]) q.2).bind fun r => some (Syn.mk 1 _ (mNumber T s).1.num (tk T i).pos r.1, r.2)) hl h (fun _ h => ?_) fun i' e p he => ?_
      · refine Rel.number (M := fun n => (mOpt res T (f + 2) 2 [119, 104, 101, 114, 101] [(mNumber T (mNeed T [111, 117, 116, 112, 117, 116, 115] n.2)).1] (mNumber T (mNeed T [111, 117, 116, 112, 117, 116, 115] n.2)).2).bind fun p =>
          (mPart res T (f + 2) 3 [97, 108, 108, 111, 119] p.2).bind fun q => (mOpt res T (f + 2) 4 [99, 97, 108, 109] (p.1 ++ [q.1]) q.2).bind fun r => some (Syn.mk 1 _ n.1.num (tk T i).pos r.1, r.2)) hT h (fun h => ?_) fun t i' e p he => ?_
        · refine Rel.need (M := fun s => (mOpt res T (f + 2) 2 [119, 104, 101, 114, 101] [(mNumber T s).1] (mNumber T s).2).bind fun p =>
            (mPart res T (f + 2) 3 [97, 108, 108, 111, 119] p.2).bind fun q => (mOpt res T (f + 2) 4 [99, 97, 108, 109] (p.1 ++ [q.1]) q.2).bind fun r => some (Syn.mk 1 _ _ (tk T i).pos r.1, r.2)) hl h (fun _ h => ?_) fun i' e p he => ?_
          · refine Rel.number (M := fun n => (mOpt res T (f + 2) 2 [119, 104, 101, 114, 101] [n.1] n.2).bind fun p =>
              (mPart res T (f + 2) 3 [97, 108, 108, 111, 119] p.2).bind fun q => (mOpt res T (f + 2) 4 [99, 97, 108, 109] (p.1 ++ [q.1]) q.2).bind fun r => some (Syn.mk 1 _ _ (tk T i).pos r.1, r.2)) hT h (fun h => hB _ _ _ _ h) fun t i' e p he => ?_
            exact (eB _ _ _ ⟨i', lv, e, p⟩ he).imp fun u hu => ⟨i', hu⟩
          · have h' : (St.mk i' lv e p).er ≠ 0 := he
            dsimp only
            simp only [mName_er h', mNeed_er h', mNumber_er h']
            exact (eB _ _ _ ⟨i', lv, e, p⟩ he).imp fun u hu => ⟨i', hu⟩
        · have h' : (St.mk i' lv e p).er ≠ 0 := he
          dsimp only
          simp only [mName_er h', mNeed_er h', mNumber_er h']
          exact (eB _ _ _ ⟨i', lv, e, p⟩ he).imp fun u hu => ⟨i', hu⟩
      · have h' : (St.mk i' lv e p).er ≠ 0 := he
        dsimp only
        simp only [mName_er h', mNeed_er h', mNumber_er h']
        exact (eB _ _ _ ⟨i', lv, e, p⟩ he).imp fun u hu => ⟨i', hu⟩
    · have h' : (St.mk i' lv e p).er ≠ 0 := he
      dsimp only
      simp only [mName_er h', mNeed_er h', mNumber_er h']
      exact (eB _ _ _ ⟨i', lv, e, p⟩ he).imp fun u hu => ⟨i', hu⟩
theorem declLoop_er {g : Nat} {xs : List Syn} {s : St} (h : s.er ≠ 0) : mDeclLoop res T f (g + 1) xs s = some (xs, s) := if_neg (fun k => h k.1)
theorem declLoop_rel (hT : TokOk T) (hW : Words res) (g : Nat) : ∀ xs i, i < T.length → Rel (declLoop res T f lv g xs i) (mDeclLoop res T (f + 2) (g + 1) xs ⟨i, lv, 0, a⟩) lv a := by
  induction g with
  | zero => intro x i _; trivial
  | succ g ih =>
    intro xs i hi
    rw [declLoop, mDeclLoop]
    by_cases hk : (tk T i).kind = 3
    · rw [if_pos hk, if_neg (by rintro ⟨_, h⟩; exact h hk)]
      exact rfl
    · rw [if_neg hk, if_pos ⟨rfl, hk⟩]
      refine (decl_rel hT hW hi).bind (fun y j hy => ?_) fun t i' e p he => ⟨_, _, declLoop_er he⟩
      exact ih _ _ (decl_on hT.last hi _ _ hy).2
theorem declLoop_on (hl : (tk T (T.length - 1)).kind = 3) (g : Nat) : ∀ xs i, i < T.length → On0 T i (declLoop res T f lv g xs i) := by
  induction g with
  | zero => intro x i _ a j e; cases e
  | succ g ih =>
    intro xs i hi
    rw [declLoop]
    split
    · exact On0.ok hi
    · exact ((decl_on hl hi).bind fun _ _ _ h => ih _ _ h).zero
theorem program_rel (hT : TokOk T) (hW : Words res) : RelR T (program res T f) (mProgram res T (f + 2)) := fun lv i a hi => by
  have hl := hT.last
  unfold program mProgram
  dsimp only
  have eL : ∀ (n : Int) (s : St), s.er ≠ 0 → ((mDeclLoop res T (f + 2) (T.length + 2) [] s).bind fun p => some (Syn.mk 0 [] n (tk T i).pos p.1, p.2)) = some (Syn.mk 0 [] n (tk T i).pos [], s) := fun n s he => by rw [declLoop_er he]; rfl
  refine Rel.need (M := fun s => (mDeclLoop res T (f + 2) (T.length + 2) [] (mNeed T [59] (mNumber T s).2)).bind fun p => some (Syn.mk 0 [] (mNumber T s).1.num (tk T i).pos p.1, p.2)) hl hi (fun _ h => ?_) fun i' e p he => ⟨_, _, by (try dsimp only); rw [mNumber_er (by exact he), mNeed_er (by exact he), eL _ _ he]⟩
  refine Rel.number (M := fun n => (mDeclLoop res T (f + 2) (T.length + 2) [] (mNeed T [59] n.2)).bind fun p => some (Syn.mk 0 [] n.1.num (tk T i).pos p.1, p.2)) hT h (fun h => ?_) fun t i' e p he => ⟨_, _, by (try dsimp only); rw [mNeed_er (by exact he), eL _ _ he]⟩
  refine Rel.need (M := fun s => (mDeclLoop res T (f + 2) (T.length + 2) [] s).bind fun p => some (Syn.mk 0 [] _ (tk T i).pos p.1, p.2)) hl h (fun _ h => ?_) fun i' e p he => ⟨_, _, eL _ _ he⟩
  exact (declLoop_rel hT hW _ _ _ h).bind (fun xs j _ => rfl) fun t i' e p he => ⟨_, _, rfl⟩
theorem program_on (hl : (tk T (T.length - 1)).kind = 3) : OnR T (program res T f) := fun lv i hi =>
  (need_on hl _ hi).bind fun _ _ _ h => ((number_on hl h).bind fun _ _ _ h => ((need_on hl _ h).bind fun _ _ _ h => (declLoop_on hl _ _ _ h).bind fun _ _ _ h => On0.ok h).zero).zero
/-- A whole text: the reference's end. -/
theorem whole_rel {r : Rd} {m : MRd} (h0 : 0 < T.length) (hr : RelR T r m) : Rel (whole T r) (mWhole T m) 0 0 := by
  unfold whole mWhole
  refine (hr 0 0 0 h0).bind (fun x j hx => ?_) fun t i' e p he => ⟨t, i', by unfold mEnd; split <;> simp [mFail_er, he]⟩
  dsimp only [mEnd]
  by_cases hk : (tk T j).kind = 3
  · rw [if_pos hk, if_pos hk]; exact rfl
  · rw [if_neg hk, if_neg hk]; exact fail_rel _
/-! Fuel. -/
theorem part_nn {k : Int} (hl : (tk T (T.length - 1)).kind = 3) (h : ∀ nt j, i < j → j < T.length → rd res T f nt lv j ≠ .none) (hi : i < T.length) (hk : (tk T i).kind ≠ 3) : part res T f k lv i ≠ .none := by
  obtain ⟨q1, q2⟩ := nx_on hl hi hk
  unfold part
  rw [q1]
  exact nn_bind (h _ _ (by omega) q2) fun _ _ _ => nn_ok _ _
theorem opt_nn {k : Int} {w : List UInt8} {xs : List Syn} (hl : (tk T (T.length - 1)).kind = 3) (h : ∀ nt j, i < j → j < T.length → rd res T f nt lv j ≠ .none) (hi : i < T.length) : optPart res T f w k xs lv i ≠ .none := by
  unfold optPart
  split
  · rename_i hw; exact nn_bind (part_nn hl h hi (isW_kind hw)) fun _ _ _ => nn_ok _ _
  · exact nn_ok _ _
theorem head_nn (hl : (tk T (T.length - 1)).kind = 3) (h : ∀ nt j, i < j → j < T.length → rd res T f nt lv j ≠ .none) (hi : i < T.length) : declHd res T f lv i ≠ .none := by
  have hb : ∀ {w : List UInt8}, isW T [w] i = true → i < nx T i ∧ nx T i < T.length := fun hw => by
    obtain ⟨q1, q2⟩ := nx_on hl hi (isW_kind hw); omega
  unfold declHd
  split
  · rename_i hw
    obtain ⟨q1, q2⟩ := hb hw
    refine nn_bind (name_nn _) fun _ j e => ?_
    obtain ⟨a1, a2⟩ := name_on hl q2 _ _ e
    refine nn_bind (need_nn _ _) fun _ j e => ?_
    obtain ⟨b1, b2⟩ := need_on hl _ a2 _ _ e
    refine nn_bind (number_nn _) fun _ j e => ?_
    obtain ⟨c1, c2⟩ := number_on hl b2 _ _ e
    refine nn_bind (need_nn _ _) fun _ j e => ?_
    obtain ⟨d1, d2⟩ := need_on hl _ c2 _ _ e
    refine nn_bind (number_nn _) fun _ j e => ?_
    obtain ⟨e1, e2⟩ := number_on hl d2 _ _ e
    refine nn_bind (opt_nn hl (fun nt j hj => h nt j (by omega)) e2) fun _ j e => ?_
    obtain ⟨f1, f2⟩ := opt_on hl e2 _ _ e
    split
    · rename_i hw
      refine nn_bind (part_nn hl (fun nt j hj => h nt j (by omega)) f2 (isW_kind hw)) fun _ j e => ?_
      obtain ⟨g1, g2⟩ := part_on hl f2 (isW_kind hw) _ _ e
      exact nn_bind (opt_nn hl (fun nt j hj => h nt j (by omega)) g2) fun _ _ _ => nn_ok _ _
    · exact nn_fail _ _
  split
  · rename_i hw
    obtain ⟨q1, q2⟩ := hb hw
    refine nn_bind (name_nn _) fun _ j e => ?_
    obtain ⟨a1, a2⟩ := name_on hl q2 _ _ e
    refine nn_bind (need_nn _ _) fun _ j e => ?_
    obtain ⟨b1, b2⟩ := need_on hl _ a2 _ _ e
    exact nn_bind (h _ _ (by omega) b2) fun _ _ _ => nn_ok _ _
  split
  · rename_i hw
    obtain ⟨q1, q2⟩ := hb hw
    refine nn_bind (name_nn _) fun _ j e => ?_
    obtain ⟨a1, a2⟩ := name_on hl q2 _ _ e
    refine nn_bind (need_nn _ _) fun _ j e => ?_
    obtain ⟨b1, b2⟩ := need_on hl _ a2 _ _ e
    exact nn_bind (h _ _ (by omega) b2) fun _ _ _ => nn_ok _ _
  split
  · exact nn_bind (name_nn _) fun _ _ _ => nn_bind (need_nn _ _) fun _ _ _ => nn_bind (name_nn _) fun _ _ _ => nn_bind (need_nn _ _) fun _ _ _ => nn_bind (name_nn _) fun _ _ _ => nn_bind (need_nn _ _) fun _ _ _ => nn_bind (number_nn _) fun _ _ _ => nn_ok _ _
  · exact nn_fail _ _
theorem decl_nn (hl : (tk T (T.length - 1)).kind = 3) (h : ∀ nt j, i < j → j < T.length → rd res T f nt lv j ≠ .none) (hi : i < T.length) : declaration res T f lv i ≠ .none := by
  rw [head_eq]
  exact nn_bind (head_nn hl h hi) fun _ _ _ => nn_bind (need_nn _ _) fun _ _ _ => nn_ok _ _
theorem declLoop_nn (hl : (tk T (T.length - 1)).kind = 3) (h : ∀ nt j, j < T.length → rd res T f nt lv j ≠ .none) (g : Nat) : ∀ xs i, i < T.length → T.length < g + i → declLoop res T f lv g xs i ≠ .none := by
  induction g with
  | zero => intro x i h1 h2; omega
  | succ g ih =>
    intro xs i hi hg
    rw [declLoop]
    split
    · exact nn_ok _ _
    · refine nn_bind (decl_nn hl (fun nt j _ => h nt j) hi) fun y j e => ?_
      obtain ⟨h3, h4⟩ := decl_on hl hi _ _ e
      exact ih _ _ h4 (by omega)
theorem program_nn (hl : (tk T (T.length - 1)).kind = 3) (h : ∀ nt j, j < T.length → rd res T f nt lv j ≠ .none) (hi : i < T.length) : program res T f lv i ≠ .none := by
  unfold program
  refine nn_bind (need_nn _ _) fun _ j e => ?_
  obtain ⟨a1, a2⟩ := need_on hl _ hi _ _ e
  refine nn_bind (number_nn _) fun _ j e => ?_
  obtain ⟨b1, b2⟩ := number_on hl a2 _ _ e
  refine nn_bind (need_nn _ _) fun _ j e => ?_
  obtain ⟨c1, c2⟩ := need_on hl _ b2 _ _ e
  exact nn_bind (declLoop_nn hl h _ _ _ c2 (by omega)) fun _ _ _ => nn_ok _ _
theorem whole_nn {r : Rd} (hr : r 0 0 ≠ .none) : whole T r ≠ .none := by
  unfold whole
  refine nn_bind hr fun _ _ _ => ?_
  split
  · exact nn_ok _ _
  · exact nn_fail _ _
end
end Go.Proofs.YtekccolabhfopaaGreatDoor
end
section
/- Plain facts: what the tokens of a text look like; no program in sight. -/
namespace Go.Proofs.YtekccolabhfopaaGreatDoor
/-- A number's text: digits, at least one, and not great. -/
def NumTok (t : Tok) : Prop := t.kind = 1 → t.text ≠ [] ∧ (∀ c ∈ t.text, isDigit c.toNat = true) ∧ dv 0 t.text ≤ 1048576
theorem tok_num {l : List UInt8} {n : Nat} (h : tok l = .ok (1, n)) : l.take n ≠ [] ∧ (∀ c ∈ l.take n, isDigit c.toNat = true) ∧ dv 0 (l.take n) ≤ 1048576 := by
  unfold tok at h
  by_cases h1 : runLen isWordy l = 0
  · rw [if_pos h1] at h; split at h <;> simp at h
  rw [if_neg h1] at h
  by_cases h2 : runLen isLetter l = 0
  · rw [if_pos h2] at h
    by_cases h3 : runLen isDigit l < runLen isWordy l
    · rw [if_pos h3] at h; simp at h
    rw [if_neg h3] at h
    by_cases h4 : (valGo 0 (l.take (runLen isWordy l))).isNone = true
    · rw [if_pos h4] at h; simp at h
    rw [if_neg h4] at h
    simp only [Except.ok.injEq, Prod.mk.injEq, true_and] at h
    subst h
    have hle := runLen_le isWordy l
    refine ⟨fun e => ?_, fun c hc => ?_, ?_⟩
    · have : min (runLen isWordy l) l.length = 0 := by rw [← List.length_take, e]; rfl
      omega
    · refine runLen_take_all isDigit l c ?_
      have hm := runLen_le isDigit l
      have : l.take (runLen isWordy l) = (l.take (runLen isDigit l)).take (runLen isWordy l) := by rw [List.take_take, Nat.min_eq_left (by omega)]
      rw [this] at hc
      exact List.mem_of_mem_take hc
    · rw [valGo_eq _ _ (by omega)] at h4
      split at h4
      · assumption
      · simp at h4
  · rw [if_neg h2] at h
    split at h <;> simp at h
theorem scanGo_num (f : Nat) : ∀ (p : Nat) (l : List UInt8) (ts : List Tok), scanGo f p l = .ok ts → ∀ t ∈ ts, NumTok t ∧ t.text.length ≤ l.length := by
  induction f with
  | zero => intro p l ts h; simp [scanGo] at h; subst h; simp
  | succ f ih =>
    intro p l ts h
    simp only [scanGo] at h
    split at h
    · simp only [Except.ok.injEq] at h; subst h
      intro t ht
      rw [List.mem_singleton.1 ht]
      exact ⟨fun h => by simp at h, by simp⟩
    · rename_i c r hd
      have hlen : (c :: r).length ≤ l.length := by rw [← hd]; simp
      split at h
      · simp at h
      · rename_i kind n ht
        split at h
        · simp at h
        · rename_i us hu
          simp only [Except.ok.injEq] at h
          subst h
          intro t hm
          rcases List.mem_cons.1 hm with rfl | hm
          · refine ⟨fun hk => ?_, by rw [List.length_take]; omega⟩
            have hk1 : kind = 1 := by simp only at hk; omega
            subst hk1
            exact tok_num ht
          · obtain ⟨q1, q2⟩ := ih _ _ _ hu t hm
            refine ⟨q1, Nat.le_trans q2 ?_⟩
            rw [List.length_drop]; omega
theorem scanGo_last (f : Nat) : ∀ (p : Nat) (l : List UInt8) (ts : List Tok), l.length < f → scanGo f p l = .ok ts → ∃ a t, ts = a ++ [t] ∧ t.kind = 3 := by
  induction f with
  | zero => intro p l ts hl; omega
  | succ f ih =>
    intro p l ts hl h
    simp only [scanGo] at h
    split at h
    · simp only [Except.ok.injEq] at h; subst h
      exact ⟨[], _, rfl, rfl⟩
    · rename_i c r hd
      have hlen : (c :: r).length ≤ l.length := by rw [← hd]; simp
      split at h
      · simp at h
      · rename_i kind n ht
        have hp := tok_pos ht
        split at h
        · simp at h
        · rename_i us hu
          simp only [Except.ok.injEq] at h
          subst h
          obtain ⟨a, t, rfl, hk⟩ := ih _ _ _ (by rw [List.length_drop]; omega) hu
          exact ⟨_ :: a, t, rfl, hk⟩
end Go.Proofs.YtekccolabhfopaaGreatDoor
end
section
/- Plain functions: what is a text of a kind of tokens; Join. -/
namespace Go.Proofs.YtekccolabhfopaaGreatDoor

/-- Is a text one of a kind of tokens? -/
def formedB (kind : Int) (s : List UInt8) : Bool :=
  if kind = 3 then s.isEmpty
  else if kind = 2 then decide (s ∈ signTexts)
  else !s.isEmpty && decide (runLen isWordy s = s.length) && decide ((wordRes s).2.2 = 0) && decide (((wordRes s).1 : Int) = kind)
def wordlyB (kind : Int) : Bool := decide (kind = 0) || decide (kind = 1)
/-- Must a blank stand between two tokens? -/
def gap (p t : Tok) : Bool := (wordlyB p.kind && wordlyB t.kind) || (decide (p.text = [60]) && decide (t.text = [61]))
/-- The error of a token (last: is it the last one?). -/
def errTok (last : Bool) (t : Tok) : Nat :=
  if t.kind < 0 ∨ 3 < t.kind then 1 else if formedB t.kind t.text = false then 3 else if t.kind = 3 ∧ last = false then 14 else 0
def joinErrs : List Tok → Nat
  | [] => 0
  | t :: r => if errTok r.isEmpty t = 0 then joinErrs r else errTok r.isEmpty t
def joinGo : Option Tok → List Tok → List UInt8
  | _, [] => []
  | none, t :: r => t.text ++ joinGo (some t) r
  | some p, t :: r => (if gap p t then [32] else []) ++ (t.text ++ joinGo (some t) r)
def join (l : List Tok) : Except Nat (List UInt8) :=
  if 65536 < l.length then .error 5
  else if joinErrs l ≠ 0 then .error (joinErrs l)
  else if 65536 < (joinGo none l).length then .error 13
  else .ok (joinGo none l)
def prevTok (ts : List Tok) (k : Nat) : Option Tok := if k = 0 then none else ts[k - 1]?

theorem joinErrs_step {ts : List Tok} {k : Nat} (h : k < ts.length) (h0 : errTok (decide (k + 1 = ts.length)) ts[k] = 0) : joinErrs (ts.drop k) = joinErrs (ts.drop (k + 1)) := by
  rw [List.drop_eq_getElem_cons h, joinErrs]
  have : (ts.drop (k + 1)).isEmpty = decide (k + 1 = ts.length) := by
    rw [Bool.eq_iff_iff]; simp; omega
  rw [this, if_pos h0]
theorem joinErrs_stop {ts : List Tok} {k : Nat} (h : k < ts.length) (h0 : errTok (decide (k + 1 = ts.length)) ts[k] ≠ 0) : joinErrs (ts.drop k) = errTok (decide (k + 1 = ts.length)) ts[k] := by
  rw [List.drop_eq_getElem_cons h, joinErrs]
  have : (ts.drop (k + 1)).isEmpty = decide (k + 1 = ts.length) := by
    rw [Bool.eq_iff_iff]; simp; omega
  rw [this, if_neg h0]
theorem joinGo_step {ts : List Tok} {k : Nat} (h : k < ts.length) :
    joinGo (prevTok ts k) (ts.drop k) = (if ∃ p, prevTok ts k = some p ∧ gap p ts[k] = true then [32] else []) ++ (ts[k].text ++ joinGo (prevTok ts (k + 1)) (ts.drop (k + 1))) := by
  have e : prevTok ts (k + 1) = some ts[k] := by simp [prevTok, h]
  rw [List.drop_eq_getElem_cons h, e]
  cases hp : prevTok ts k with
  | none => simp [joinGo]
  | some p => by_cases hg : gap p ts[k] <;> simp [joinGo, hg]
end Go.Proofs.YtekccolabhfopaaGreatDoor
end
