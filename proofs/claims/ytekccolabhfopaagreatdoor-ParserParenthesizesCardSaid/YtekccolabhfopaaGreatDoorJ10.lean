/- Joined: Tame, SimB, Fuel. -/
import Derived.Test.YtekccolabhfopaaGreatDoorJ09
import Derived.Test.YtekccolabhfopaaGreatDoorJ08
set_option linter.unusedVariables false
set_option linter.unusedSimpArgs false
section
/- Plain facts: what a step of the reference's parser does to the level and to the error's number; no program in sight. -/
namespace Go.Proofs.YtekccolabhfopaaGreatDoor
theorem mFail_i (T : List Tok) (e : Int) (s : St) : (mFail T e s).i = s.i := by unfold mFail; split <;> rfl
theorem mFail_lv (T : List Tok) (e : Int) (s : St) : (mFail T e s).lv = s.lv := by unfold mFail; split <;> rfl
theorem mTake_lv (T : List Tok) (s : St) : (mTake T s).lv = s.lv := by unfold mTake; split <;> rfl
theorem mNeed_lv (T : List Tok) (x : List UInt8) (s : St) : (mNeed T x s).lv = s.lv := by unfold mNeed; rw [mTake_lv]; split <;> simp [mFail_lv]
section
variable {res : List UInt8 → Bool} {T : List Tok}
theorem mName_lv (s : St) : (mName res T s).2.lv = s.lv := by unfold mName; dsimp only; rw [mTake_lv]; split <;> simp [mFail_lv]
theorem mNumber_lv (s : St) : (mNumber T s).2.lv = s.lv := by unfold mNumber; dsimp only; rw [mTake_lv]; split <;> simp [mFail_lv]
theorem mPush_lv (s : St) : (mPush T s).lv = s.lv + 1 := by unfold mPush; split <;> simp [mFail_lv, mUp]
theorem mPop_lv (s : St) : (mPop s).lv = s.lv - 1 := rfl
theorem mTake_e (s : St) : (mTake T s).er = s.er := by unfold mTake; split <;> rfl
theorem mTake_z {s : St} (h : (mTake T s).er = 0) : s.er = 0 := mTake_e s ▸ h
theorem mFail4_z {s : St} (h : (mFail T 4 s).er = 0) : s.er = 0 := by
  unfold mFail at h
  split at h
  · assumption
  · exact h
theorem mFail12_z {s : St} (h : (mFail T 12 s).er = 0) : s.er = 0 := by
  unfold mFail at h
  split at h
  · assumption
  · exact h
theorem mNeed_z {w : List UInt8} {s : St} (h : (mNeed T w s).er = 0) : s.er = 0 := by
  unfold mNeed at h
  replace h := mTake_z h
  split at h
  · exact h
  · exact mFail4_z h
theorem mName_z {s : St} (h : (mName res T s).2.er = 0) : s.er = 0 := by
  unfold mName at h
  replace h := mTake_z h
  split at h
  · exact h
  · exact mFail4_z h
theorem mNumber_z {s : St} (h : (mNumber T s).2.er = 0) : s.er = 0 := by
  unfold mNumber at h
  replace h := mTake_z h
  split at h
  · exact h
  · exact mFail4_z h
theorem mPush_z {s : St} (h : (mPush T s).er = 0) : s.er = 0 := by
  unfold mPush at h
  split at h
  · exact show (mUp s).er = 0 from mFail12_z h
  · exact h
theorem mPop_z {s : St} (h : (mPop s).er = 0) : s.er = 0 := h
/-- The level is bounded while there is no error. -/
def Lv (s : St) : Prop := s.er = 0 → s.lv ≤ 128
theorem Lv.take {s : St} (h : Lv s) : Lv (mTake T s) := fun e => by rw [mTake_lv]; exact h (mTake_z e)
theorem Lv.need {w : List UInt8} {s : St} (h : Lv s) : Lv (mNeed T w s) := fun e => by rw [mNeed_lv]; exact h (mNeed_z e)
theorem Lv.fail {s : St} (h : Lv s) : Lv (mFail T 4 s) := fun e => by rw [mFail_lv]; exact h (mFail4_z e)
theorem Lv.name {s : St} (h : Lv s) : Lv (mName res T s).2 := fun e => by rw [mName_lv]; exact h (mName_z e)
theorem Lv.number {s : St} (h : Lv s) : Lv (mNumber T s).2 := fun e => by rw [mNumber_lv]; exact h (mNumber_z e)
theorem Lv.push (s : St) : Lv (mPush T s) := fun e => by
  unfold mPush at e ⊢
  split at e
  · rename_i h
    have h0 := mFail12_z e
    unfold mFail at e
    rw [if_pos h0] at e
    cases e
  · rename_i h
    rw [if_neg h]
    unfold mUp
    dsimp only
    omega
theorem Lv.pop {s : St} (h : Lv s) : Lv (mPop s) := fun e => by have := h e; show s.lv - 1 ≤ 128; omega
def TameA {α : Type} (m : St → Option (α × St)) : Prop := ∀ s t s', m s = some (t, s') → s'.lv = s.lv ∧ (s'.er = 0 → s.er = 0)
abbrev Tame (m : MRd) : Prop := TameA m
theorem TameA.lv {α : Type} {m : St → Option (α × St)} (hm : TameA m) {s s' : St} {t : α} (h : m s = some (t, s')) (hl : Lv s) : Lv s' := fun e => by
  obtain ⟨h1, h2⟩ := hm _ _ _ h
  rw [h1]; exact hl (h2 e)
theorem TameA.ret {α : Type} {t : St → α} {g : St → St} (h1 : ∀ s, (g s).lv = s.lv) (h2 : ∀ s, (g s).er = 0 → s.er = 0) : TameA (fun s => some (t s, g s)) := fun s t' s' e => by
  cases e; exact ⟨h1 s, h2 s⟩
/-- A reader behind a step, and what comes behind it. -/
theorem tame_step {α β : Type} {m : St → Option (α × St)} (hm : TameA m) {s s1 s' : St} {t : β} {k : α × St → Option (β × St)} (h : (m s1).bind k = some (t, s'))
    (hk : ∀ p, k p = some (t, s') → s1.lv - s.lv = s1.lv - s.lv → p.2.lv = s1.lv → (p.2.er = 0 → s1.er = 0) → s'.lv = s.lv ∧ (s'.er = 0 → s.er = 0)) : s'.lv = s.lv ∧ (s'.er = 0 → s.er = 0) := by
  obtain ⟨p, hp, he⟩ := Option.bind_eq_some_iff.1 h
  obtain ⟨a1, a2⟩ := hm s1 p.1 p.2 hp
  exact hk p he rfl a1 a2
theorem leftLoop_tame {r : MRd} {ops : List (List UInt8)} (hr : Tame r) (g : Nat) : ∀ x, Tame (mLeftLoop T r ops g x) := by
  induction g with
  | zero => intro x s t s' h; cases h
  | succ g ih =>
    intro x s t s' h
    rw [mLeftLoop] at h
    split at h
    · refine tame_step hr h fun p hp _ h1 h2 => ?_
      obtain ⟨a1, a2⟩ := ih _ _ _ _ hp
      rw [mTake_lv] at h1
      exact ⟨a1.trans h1, fun e => mTake_z (h2 (a2 e))⟩
    · cases h; exact ⟨rfl, id⟩
theorem left_tame {r : MRd} {ops : List (List UInt8)} (hr : Tame r) : Tame (mLeft T r ops) := fun s t s' h => by
  unfold mLeft at h
  split at h
  · cases h; exact ⟨rfl, id⟩
  · refine tame_step hr h fun p hp _ h1 h2 => ?_
    obtain ⟨a1, a2⟩ := leftLoop_tame hr _ _ _ _ _ hp
    exact ⟨a1.trans h1, fun e => h2 (a2 e)⟩
theorem setLoop_tame (g : Nat) : ∀ xs, TameA (mSetLoop T g xs) := by
  induction g with
  | zero => intro x s t s' h; cases h
  | succ g ih =>
    intro x s t s' h
    rw [mSetLoop] at h
    split at h
    · obtain ⟨a1, a2⟩ := ih _ _ _ _ h
      rw [mNumber_lv, mTake_lv] at a1
      exact ⟨a1, fun e => mTake_z (mNumber_z (a2 e))⟩
    · cases h; exact ⟨rfl, id⟩
theorem set_tame : Tame (mSet T) := fun s t s' h => by
  unfold mSet at h
  split at h
  · cases h; exact ⟨mTake_lv _ _, fun e => mTake_z e⟩
  split at h
  · refine tame_step (setLoop_tame _ _) h fun p hp _ h1 h2 => ?_
    cases hp
    rw [mNumber_lv, mNeed_lv] at h1
    exact ⟨(mNeed_lv _ _ _).trans h1, fun e => mNeed_z (mNumber_z (h2 (mNeed_z e)))⟩
  · cases h; exact ⟨by rw [mNeed_lv, mNeed_lv], fun e => mNeed_z (mNeed_z e)⟩
theorem args_tame {fo : MRd} (hf : Tame fo) (w : List UInt8) : TameA (mArgs T fo w) := fun s t s' h => by
  unfold mArgs at h
  split at h
  · cases h; exact ⟨by rw [mNumber_lv, mNeed_lv, mNumber_lv], fun e => mNumber_z (mNeed_z (mNumber_z e))⟩
  split at h
  · cases h; exact ⟨by rw [mNumber_lv], fun e => mNumber_z e⟩
  split at h
  · refine tame_step hf h fun p hp _ h1 h2 => ?_
    cases hp
    rw [mNeed_lv, mNumber_lv] at h1
    exact ⟨h1, fun e => mNumber_z (mNeed_z (h2 e))⟩
  split at h
  · refine tame_step set_tame h fun p hp _ h1 h2 => ?_
    refine tame_step hf hp fun q hq _ h3 h4 => ?_
    cases hq
    rw [mNeed_lv] at h3
    exact ⟨h3.trans h1, fun e => h2 (mNeed_z (h4 e))⟩
  · refine tame_step hf h fun p hp _ h1 h2 => ?_
    cases hp
    exact ⟨h1, h2⟩
theorem mrd_tame (f : Nat) : ∀ nt, Tame (mrd res T f nt) := by
  induction f with
  | zero => intro nt s t s' h; cases h
  | succ f ih =>
    intro nt
    cases nt with
    | cond => exact left_tame (ih _)
    | conj => exact left_tame (ih _)
    | sum => exact left_tame (ih _)
    | scheme => exact left_tame (ih _)
    | term => exact left_tame (ih _)
    | disj => exact left_tame (ih _)
    | meet => exact left_tame (ih _)
    | neg =>
      intro s t s' h
      rw [mrd] at h
      dsimp only at h
      split at h
      · cases h; exact ⟨rfl, id⟩
      split at h
      · refine tame_step (ih _) h fun p hp _ h1 h2 => ?_
        cases hp
        rw [mPush_lv, mTake_lv] at h1
        exact ⟨by rw [mPop_lv, h1]; rfl, fun e => mTake_z (mPush_z (h2 e))⟩
      split at h
      · refine tame_step (ih _) h fun p hp _ h1 h2 => ?_
        cases hp
        rw [mPush_lv, mNeed_lv, mName_lv, mTake_lv] at h1
        exact ⟨by rw [mPop_lv, h1]; rfl, fun e => mTake_z (mName_z (mNeed_z (mPush_z (h2 e))))⟩
      · refine tame_step (ih _) h fun p hp _ h1 h2 => ?_
        split at hp
        · refine tame_step (ih _) hp fun q hq _ h3 h4 => ?_
          cases hq
          rw [mTake_lv] at h3
          exact ⟨h3.trans h1, fun e => h2 (mTake_z (h4 e))⟩
        · cases hp; exact ⟨h1, h2⟩
    | unit =>
      intro s t s' h
      rw [mrd] at h
      dsimp only at h
      split at h
      · cases h; exact ⟨rfl, id⟩
      split at h
      · cases h; exact ⟨mNumber_lv _, mNumber_z⟩
      split at h
      · cases h; exact ⟨mName_lv _, mName_z⟩
      split at h
      · refine tame_step (ih _) h fun p hp _ h1 h2 => ?_
        cases hp
        rw [mPush_lv, mTake_lv] at h1
        exact ⟨by rw [mNeed_lv, mPop_lv, h1]; rfl, fun e => mTake_z (mPush_z (h2 (mPop_z (mNeed_z e))))⟩
      split at h
      · refine tame_step (ih _) h fun p hp _ h1 h2 => ?_
        cases hp
        rw [mPush_lv, mNeed_lv, mTake_lv] at h1
        exact ⟨by rw [mNeed_lv, mPop_lv, h1]; rfl, fun e => mTake_z (mNeed_z (mPush_z (h2 (mPop_z (mNeed_z e)))))⟩
      split at h
      · refine tame_step (ih _) h fun p hp _ h1 h2 => ?_
        refine tame_step (ih _) hp fun q hq _ h3 h4 => ?_
        cases hq
        rw [mPush_lv, mNeed_lv, mTake_lv] at h1
        rw [mNeed_lv] at h3
        exact ⟨by rw [mNeed_lv, mPop_lv, h3, h1]; rfl, fun e => mTake_z (mNeed_z (mPush_z (h2 (mNeed_z (h4 (mPop_z (mNeed_z e)))))))⟩
      split at h
      · refine tame_step (ih _) h fun p hp _ h1 h2 => ?_
        cases hp
        rw [mPush_lv, mNeed_lv, mName_lv, mTake_lv] at h1
        exact ⟨by rw [mNeed_lv, mPop_lv, h1]; rfl, fun e => mTake_z (mName_z (mNeed_z (mPush_z (h2 (mPop_z (mNeed_z e))))))⟩
      · cases h; exact ⟨mFail_lv _ _ _, mFail4_z⟩
    | factor =>
      intro s t s' h
      rw [mrd] at h
      dsimp only at h
      split at h
      · cases h; exact ⟨rfl, id⟩
      refine tame_step (ih _) h fun p hp _ h1 h2 => ?_
      split at hp
      · refine tame_step (ih _) hp fun q hq _ h3 h4 => ?_
        cases hq
        rw [mPush_lv, mNumber_lv, mTake_lv] at h3
        exact ⟨by rw [mPop_lv, h3, h1]; rfl, fun e => h2 (mTake_z (mNumber_z (mPush_z (h4 e))))⟩
      · cases hp; exact ⟨h1, h2⟩
    | atom =>
      intro s t s' h
      rw [mrd] at h
      dsimp only at h
      split at h
      · cases h; exact ⟨mName_lv _, mName_z⟩
      split at h
      · cases h
        exact ⟨by rw [mNeed_lv, mPop_lv, mNumber_lv, mPush_lv, mNeed_lv, mTake_lv]; rfl, fun e => mTake_z (mNeed_z (mPush_z (mNumber_z (mPop_z (mNeed_z e)))))⟩
      split at h
      · cases h; exact ⟨mTake_lv _ _, mTake_z⟩
      split at h
      · refine tame_step (ih _) h fun p hp _ h1 h2 => ?_
        cases hp
        rw [mPush_lv, mNeed_lv, mTake_lv] at h1
        exact ⟨by rw [mNeed_lv, mPop_lv, h1]; rfl, fun e => mTake_z (mNeed_z (mPush_z (h2 (mPop_z (mNeed_z e)))))⟩
      split at h
      · refine tame_step (ih _) h fun p hp _ h1 h2 => ?_
        cases hp
        rw [mPush_lv, mTake_lv] at h1
        exact ⟨by rw [mNeed_lv, mPop_lv, h1]; rfl, fun e => mTake_z (mPush_z (h2 (mPop_z (mNeed_z e))))⟩
      · cases h; exact ⟨mFail_lv _ _ _, mFail4_z⟩
    | formula =>
      intro s t s' h
      rw [mrd] at h
      dsimp only at h
      refine tame_step (ih _) h fun p hp _ h1 h2 => ?_
      split at hp
      · refine tame_step (ih _) hp fun q hq _ h3 h4 => ?_
        cases hq
        rw [mPush_lv, mTake_lv] at h3
        exact ⟨by rw [mPop_lv, h3, h1]; rfl, fun e => h2 (mTake_z (mPush_z (h4 e)))⟩
      · cases hp; exact ⟨h1, h2⟩
    | lit =>
      intro s t s' h
      rw [mrd] at h
      dsimp only at h
      split at h
      · cases h; exact ⟨rfl, id⟩
      split at h
      · refine tame_step (ih _) h fun p hp _ h1 h2 => ?_
        cases hp
        rw [mPush_lv, mTake_lv] at h1
        exact ⟨by rw [mPop_lv, h1]; rfl, fun e => mTake_z (mPush_z (h2 e))⟩
      split at h
      · cases h; exact ⟨mTake_lv _ _, mTake_z⟩
      split at h
      · refine tame_step (ih _) h fun p hp _ h1 h2 => ?_
        cases hp
        rw [mPush_lv, mTake_lv] at h1
        exact ⟨by rw [mNeed_lv, mPop_lv, h1]; rfl, fun e => mTake_z (mPush_z (h2 (mPop_z (mNeed_z e))))⟩
      split at h
      · refine tame_step (args_tame (ih _) _) h fun p hp _ h1 h2 => ?_
        cases hp
        rw [mPush_lv, mNeed_lv, mTake_lv] at h1
        exact ⟨by rw [mNeed_lv, mPop_lv, h1]; rfl, fun e => mTake_z (mNeed_z (mPush_z (h2 (mPop_z (mNeed_z e)))))⟩
      · cases h; exact ⟨mFail_lv _ _ _, mFail4_z⟩
theorem part_tame (f : Nat) (k : Int) (w : List UInt8) : Tame (mPart res T f k w) := fun s t s' h => by
  refine tame_step (mrd_tame f .cond) h fun p hp _ h1 h2 => ?_
  cases hp
  rw [mNeed_lv] at h1
  exact ⟨h1, fun e => mNeed_z (h2 e)⟩
end
end Go.Proofs.YtekccolabhfopaaGreatDoor
end
section
/- Plain facts: the reference's parser comes to what the readers say: all readers, programs, whole texts; no program in sight. -/
namespace Go.Proofs.YtekccolabhfopaaGreatDoor
section
variable {res : List UInt8 → Bool} {T : List Tok} {lv lv' i : Nat} {a : Int}
theorem not_rel {r : Rd} {m : MRd} (hl : (tk T (T.length - 1)).kind = 3) (hr : RelR T r m) (hm : Idle m) (hi : i < T.length) (hw : isW T [kNot] i = true) :
    Rel (notR T r lv i) ((m (mPush T (mTake T ⟨i, lv, 0, a⟩))).bind fun p => some (Syn.mk 12 [] 0 (tk T i).pos [p.1], mPop p.2)) lv a := by
  obtain ⟨h1, h2⟩ := nx_on hl hi (isW_kind hw)
  rw [mTake_ok hl hi (isW_kind hw)]
  exact (within_rel hr hm (by omega)).bind (fun x j _ => rfl) fun t i' e p he => ⟨_, _, rfl⟩
theorem neg_rel (hT : TokOk T) (f : Nat) (ih : ∀ nt, RelR T (rd res T f nt) (mrd res T (f + 2) nt)) : RelR T (rd res T (f + 1) .neg) (mrd res T (f + 3) .neg) := fun lv i a hi => by
  have hl := hT.last
  have hon := fun nt => rd_on (res := res) hl f nt
  have hid := fun nt => mrd_idle (res := res) (T := T) f nt
  rw [rd, mrd]
  dsimp only
  rw [if_neg (fun h : (0 : Int) ≠ 0 => h rfl)]
  cases h0 : isW T [kNot] i
  · rw [if_neg Bool.false_ne_true, if_neg Bool.false_ne_true]
    rw [isW_cons [97, 108, 108]]
    by_cases h1 : isW T [[97, 108, 108]] i = true ∨ isW T [[115, 111, 109, 101]] i = true
    · rw [if_pos (by rw [Bool.or_eq_true]; exact h1), if_pos h1]
      have hk3 : (tk T i).kind ≠ 3 := by rcases h1 with h1 | h1 <;> exact isW_kind h1
      obtain ⟨q1, q2⟩ := nx_on hl hi hk3
      rw [mTake_ok hl hi hk3]
      refine Rel.name (M := fun n => (mrd res T (f + 2) .cond (mPush T (mNeed T [58] n.2))).bind fun p => some (Syn.mk 13 (tk T i).text 0 (tk T i).pos [n.1, p.1], mPop p.2)) hl (by omega) (fun h => ?_) fun t i' e p he => ?_
      · refine Rel.need (M := fun s => (mrd res T (f + 2) .cond (mPush T s)).bind fun p => some (Syn.mk 13 (tk T i).text 0 (tk T i).pos [_, p.1], mPop p.2)) hl h (fun _ h => ?_) fun i' e p he => ?_
        · exact (within_rel (ih _) (hid _) h).bind (fun x j _ => rfl) fun t i' e p he => ⟨_, _, rfl⟩
        · obtain ⟨u, hu⟩ := hid .cond ⟨i', lv + 1, e, p⟩ he
          exact ⟨_, _, by (try dsimp only); rw [mPush_er (by exact he), mUp, hu]; rfl⟩
      · obtain ⟨u, hu⟩ := hid .cond ⟨i', lv + 1, e, p⟩ he
        exact ⟨_, _, by (try dsimp only); rw [mNeed_er (by exact he), mPush_er (by exact he), mUp, hu]; rfl⟩
    · rw [if_neg (by rw [Bool.or_eq_true]; exact h1), if_neg h1]
      refine (ih .sum lv i a hi).bind (fun x j hx => ?_) fun t i' e p he => ⟨_, _, if_neg (fun k => he k.1)⟩
      have hj := (hon .sum lv i hi _ _ hx).2
      dsimp only
      cases h2 : isW T [[61], [33, 61], [60], [60, 61]] j
      · rw [if_neg Bool.false_ne_true, if_neg (by simp)]
        exact rfl
      · rw [if_pos (rfl : true = true), if_pos ⟨rfl, rfl⟩]
        obtain ⟨q1, q2⟩ := nx_on hl hj (isW_kind h2)
        rw [mTake_ok hl hj (isW_kind h2)]
        exact (ih .sum lv _ a (by omega)).bind (fun y l _ => rfl) fun t i' e p he => ⟨_, _, rfl⟩
  · rw [if_pos (rfl : true = true), if_pos (rfl : true = true)]
    exact not_rel hl (ih _) (hid _) hi h0
theorem factor_rel (hT : TokOk T) (f : Nat) (ih : ∀ nt, RelR T (rd res T f nt) (mrd res T (f + 2) nt)) : RelR T (rd res T (f + 1) .factor) (mrd res T (f + 3) .factor) := fun lv i a hi => by
  have hl := hT.last
  have hon := fun nt => rd_on (res := res) hl f nt
  have hid := fun nt => mrd_idle (res := res) (T := T) f nt
  rw [rd, mrd]
  dsimp only
  rw [if_neg (fun h : (0 : Int) ≠ 0 => h rfl)]
  refine (ih .atom lv i a hi).bind (fun x j hx => ?_) fun t i' e p he => ⟨_, _, if_neg (fun k => he k.1)⟩
  have hj := (hon .atom lv i hi _ _ hx).2
  dsimp only
  cases h2 : isW T [[116, 104, 101, 110]] j
  · rw [if_neg Bool.false_ne_true, if_neg (by simp)]
    exact rfl
  · rw [if_pos (rfl : true = true), if_pos ⟨rfl, rfl⟩]
    obtain ⟨q1, q2⟩ := nx_on hl hj (isW_kind h2)
    rw [mTake_ok hl hj (isW_kind h2)]
    refine Rel.number (M := fun n => (mrd res T (f + 2) .factor (mPush T n.2)).bind fun q => some (binary [116, 104, 101, 110] n.1.num x q.1, mPop q.2)) hT (by omega) (fun h => ?_) fun t i' e p he => ?_
    · exact (within_rel (ih _) (hid _) h).bind (fun y l _ => rfl) fun t i' e p he => ⟨_, _, rfl⟩
    · obtain ⟨u, hu⟩ := hid .factor ⟨i', lv + 1, e, p⟩ he
      exact ⟨_, _, by (try dsimp only); rw [mPush_er (by exact he), mUp, hu]; rfl⟩
theorem formula_rel (hT : TokOk T) (f : Nat) (ih : ∀ nt, RelR T (rd res T f nt) (mrd res T (f + 2) nt)) : RelR T (rd res T (f + 1) .formula) (mrd res T (f + 3) .formula) := fun lv i a hi => by
  have hl := hT.last
  have hon := fun nt => rd_on (res := res) hl f nt
  have hid := fun nt => mrd_idle (res := res) (T := T) f nt
  rw [rd, mrd]
  dsimp only
  refine (ih .disj lv i a hi).bind (fun x j hx => ?_) fun t i' e p he => ⟨_, _, if_neg (fun k => he k.1)⟩
  have hj := (hon .disj lv i hi _ _ hx).2
  dsimp only
  cases h2 : isW T [[117, 110, 116, 105, 108]] j
  · rw [if_neg Bool.false_ne_true, if_neg (by simp)]
    exact rfl
  · rw [if_pos (rfl : true = true), if_pos ⟨rfl, rfl⟩]
    obtain ⟨q1, q2⟩ := nx_on hl hj (isW_kind h2)
    rw [mTake_ok hl hj (isW_kind h2)]
    exact (within_rel (ih _) (hid _) (by omega)).bind (fun y l _ => rfl) fun t i' e p he => ⟨_, _, rfl⟩
theorem isW_mem {ws : List (List UInt8)} (h : isW T ws i = true) : (tk T i).text ∈ ws := by
  unfold isW at h
  simp only [Bool.and_eq_true, List.contains_iff_mem] at h
  exact h.2
theorem isW_same {ws : List (List UInt8)} (h : isW T ws i = true) (us : List (List UInt8)) : isW T us i = us.contains (tk T i).text := by
  unfold isW at h ⊢
  simp only [Bool.and_eq_true] at h
  rw [h.1, Bool.true_and]
theorem lit_rel (hT : TokOk T) (f : Nat) (ih : ∀ nt, RelR T (rd res T f nt) (mrd res T (f + 2) nt)) : RelR T (rd res T (f + 1) .lit) (mrd res T (f + 3) .lit) := fun lv i a hi => by
  have hl := hT.last
  have hon := fun nt => rd_on (res := res) hl f nt
  have hid := fun nt => mrd_idle (res := res) (T := T) f nt
  rw [rd, mrd]
  dsimp only
  rw [if_neg (fun h : (0 : Int) ≠ 0 => h rfl)]
  cases h0 : isW T [kNot] i
  · rw [if_neg Bool.false_ne_true, if_neg Bool.false_ne_true]
    cases h1 : isW T [[116, 114, 117, 101]] i
    · rw [if_neg Bool.false_ne_true, if_neg Bool.false_ne_true]
      cases h2 : isW T [[40]] i
      · rw [if_neg Bool.false_ne_true, if_neg Bool.false_ne_true]
        have hgo : ∀ rs : List Rd, (tk T i).kind ≠ 3 → (∀ r ∈ rs, OnR T r) → (∀ i, i < T.length → Rel (argsGo T rs (lv + 1) i) (mArgs T (mrd res T (f + 2) .formula) (tk T i).text ⟨i, lv + 1, 0, a⟩) (lv + 1) a) → True := fun _ _ _ _ => trivial
        clear hgo
        have hgo : ∀ rs : List Rd, (tk T i).kind ≠ 3 → (∀ r ∈ rs, OnR T r) → (∀ j, j < T.length → Rel (argsGo T rs (lv + 1) j) (mArgs T (mrd res T (f + 2) .formula) (tk T i).text ⟨j, lv + 1, 0, a⟩) (lv + 1) a) →
            Rel (arguments T (tk T i) rs lv (nx T i)) ((mArgs T (mrd res T (f + 2) .formula) (tk T i).text (mPush T (mNeed T [40] (mTake T ⟨i, lv, 0, a⟩)))).bind fun p => some (Syn.mk 10 (tk T i).text 0 (tk T i).pos p.1, mNeed T [41] (mPop p.2))) lv a := by
          intro rs hk3 ho hr
          obtain ⟨q1, q2⟩ := nx_on hl hi hk3
          rw [mTake_ok hl hi hk3]
          exact args_rel (lv := lv) (a := a) (i := nx T i) (rs := rs) hl hr ho (mArgs_idle (hid _) _) (by omega) (tk T i)
        have on1 : ∀ r ∈ [fun _ => number T], OnR T r := fun r hr => by rw [List.mem_singleton.1 hr]; exact fun _ _ h => number_on hl h
        have on2 : ∀ r ∈ [fun _ => number T, fun _ => number T], OnR T r := fun r hr => by simp only [List.mem_cons, List.not_mem_nil, or_false, or_self] at hr; rw [hr]; exact fun _ _ h => number_on hl h
        have on3 : ∀ r ∈ [fun _ => number T, rd res T f .formula], OnR T r := fun r hr => by
          simp only [List.mem_cons, List.not_mem_nil, or_false] at hr
          rcases hr with rfl | rfl
          · exact fun _ _ h => number_on hl h
          · exact hon _
        have on4 : ∀ r ∈ [fun _ => setR T, rd res T f .formula], OnR T r := fun r hr => by
          simp only [List.mem_cons, List.not_mem_nil, or_false] at hr
          rcases hr with rfl | rfl
          · exact fun _ _ h => setR_on hl h
          · exact hon _
        have on5 : ∀ r ∈ [rd res T f .formula], OnR T r := fun r hr => by rw [List.mem_singleton.1 hr]; exact hon _
        have r1 : ∀ j, j < T.length → Rel (argsGo T [fun _ => number T] (lv + 1) j) (some ([(mNumber T ⟨j, lv + 1, 0, a⟩).1], (mNumber T ⟨j, lv + 1, 0, a⟩).2)) (lv + 1) a := fun j hj => one_rel (num_rel hT) hj
        have r2 : ∀ j, j < T.length → Rel (argsGo T [fun _ => number T, fun _ => number T] (lv + 1) j) (some ([(mNumber T ⟨j, lv + 1, 0, a⟩).1, (mNumber T (mNeed T [44] (mNumber T ⟨j, lv + 1, 0, a⟩).2)).1], (mNumber T (mNeed T [44] (mNumber T ⟨j, lv + 1, 0, a⟩).2)).2)) (lv + 1) a :=
          fun j hj => two_rel hl (num_rel hT) (fun _ _ h => number_on hl h) (num_rel hT) num_idle hj
        have r3 : ∀ j, j < T.length → Rel (argsGo T [fun _ => number T, rd res T f .formula] (lv + 1) j) ((mrd res T (f + 2) .formula (mNeed T [44] (mNumber T ⟨j, lv + 1, 0, a⟩).2)).bind fun p => some ([(mNumber T ⟨j, lv + 1, 0, a⟩).1, p.1], p.2)) (lv + 1) a :=
          fun j hj => two_rel hl (num_rel hT) (fun _ _ h => number_on hl h) (ih _) (hid _) hj
        have r4 : ∀ j, j < T.length → Rel (argsGo T [fun _ => setR T, rd res T f .formula] (lv + 1) j) ((mSet T ⟨j, lv + 1, 0, a⟩).bind fun q => (mrd res T (f + 2) .formula (mNeed T [44] q.2)).bind fun p => some ([q.1, p.1], p.2)) (lv + 1) a :=
          fun j hj => two_rel hl (set_rel hT) (fun _ _ h => setR_on hl h) (ih _) (hid _) hj
        have r5 : ∀ j, j < T.length → Rel (argsGo T [rd res T f .formula] (lv + 1) j) ((mrd res T (f + 2) .formula ⟨j, lv + 1, 0, a⟩).bind fun p => some ([p.1], p.2)) (lv + 1) a := fun j hj => one_rel (ih _) hj
        have hall : isW T [[105, 110, 112, 117, 116], [104, 101, 97, 114, 100], [100, 101, 99, 105, 100, 101, 100], [103, 105, 118, 101, 110], [102, 97, 117, 108, 116, 121], [97, 116], [75], [69], [68], [67], [110, 101, 120, 116], [97, 108, 119, 97, 121, 115], [101, 118, 101, 110, 116, 117, 97, 108, 108, 121]] i
            = (isW T [[105, 110, 112, 117, 116], [104, 101, 97, 114, 100], [100, 101, 99, 105, 100, 101, 100]] i || (isW T [[103, 105, 118, 101, 110], [102, 97, 117, 108, 116, 121], [97, 116]] i || (isW T [[75]] i || (isW T [[69], [68], [67]] i || isW T [[110, 101, 120, 116], [97, 108, 119, 97, 121, 115], [101, 118, 101, 110, 116, 117, 97, 108, 108, 121]] i)))) := by
          unfold isW
          cases (decide ((tk T i).kind = 2) || decide ((tk T i).kind = 0))
          · rfl
          · simp only [Bool.true_and, List.contains_cons, Bool.or_assoc, List.contains_nil, Bool.or_false]
        rw [hall]
        cases h3 : isW T [[105, 110, 112, 117, 116], [104, 101, 97, 114, 100], [100, 101, 99, 105, 100, 101, 100]] i
        · rw [if_neg Bool.false_ne_true, Bool.false_or]
          cases h4 : isW T [[103, 105, 118, 101, 110], [102, 97, 117, 108, 116, 121], [97, 116]] i
          · rw [if_neg Bool.false_ne_true, Bool.false_or]
            cases h5 : isW T [[75]] i
            · rw [if_neg Bool.false_ne_true, Bool.false_or]
              cases h6 : isW T [[69], [68], [67]] i
              · rw [if_neg Bool.false_ne_true, Bool.false_or]
                cases h7 : isW T [[110, 101, 120, 116], [97, 108, 119, 97, 121, 115], [101, 118, 101, 110, 116, 117, 97, 108, 108, 121]] i
                · rw [if_neg Bool.false_ne_true, if_neg Bool.false_ne_true]
                  exact fail_rel _
                · rw [if_pos (rfl : true = true), if_pos (rfl : true = true)]
                  refine hgo _ (isW_kind h7) on5 ?_
                  have hm := isW_mem h7
                  generalize (tk T i).text = tx at hm ⊢
                  intro j hj
                  simp only [List.mem_cons, List.not_mem_nil, or_false] at hm
                  rcases hm with rfl | rfl | rfl <;> exact r5 j hj
              · rw [if_pos (rfl : true = true), Bool.true_or, if_pos (rfl : true = true)]
                refine hgo _ (isW_kind h6) on4 ?_
                have hm := isW_mem h6
                generalize (tk T i).text = tx at hm ⊢
                intro j hj
                simp only [List.mem_cons, List.not_mem_nil, or_false] at hm
                rcases hm with rfl | rfl | rfl <;> exact r4 j hj
            · rw [if_pos (rfl : true = true), Bool.true_or, if_pos (rfl : true = true)]
              refine hgo _ (isW_kind h5) on3 ?_
              have hm := isW_mem h5
              generalize (tk T i).text = tx at hm ⊢
              intro j hj
              simp only [List.mem_cons, List.not_mem_nil, or_false] at hm
              subst hm
              exact r3 j hj
          · rw [if_pos (rfl : true = true), Bool.true_or, if_pos (rfl : true = true)]
            refine hgo _ (isW_kind h4) on1 ?_
            have hm := isW_mem h4
            generalize (tk T i).text = tx at hm ⊢
            intro j hj
            simp only [List.mem_cons, List.not_mem_nil, or_false] at hm
            rcases hm with rfl | rfl | rfl <;> exact r1 j hj
        · rw [if_pos (rfl : true = true), Bool.true_or, if_pos (rfl : true = true)]
          refine hgo _ (isW_kind h3) on2 ?_
          have hm := isW_mem h3
          generalize (tk T i).text = tx at hm ⊢
          intro j hj
          simp only [List.mem_cons, List.not_mem_nil, or_false] at hm
          rcases hm with rfl | rfl | rfl <;> exact r2 j hj
      · rw [if_pos (rfl : true = true), if_pos (rfl : true = true)]
        exact parens_rel hl (hon _) (ih _) (hid _) hi h2
    · rw [if_pos (rfl : true = true), if_pos (rfl : true = true), mTake_ok hl hi (isW_kind h1)]
      exact rfl
  · rw [if_pos (rfl : true = true), if_pos (rfl : true = true)]
    exact not_rel hl (ih _) (hid _) hi h0
theorem rd_rel (hT : TokOk T) (hW : Words res) (f : Nat) : ∀ nt, RelR T (rd res T f nt) (mrd res T (f + 2) nt) := by
  induction f with
  | zero => intro nt lv i a _; trivial
  | succ f ih =>
    have hl := hT.last
    have hon := fun nt => rd_on (res := res) hl f nt
    intro nt
    cases nt with
    | neg => exact neg_rel hT f ih
    | unit => exact unit_rel hT hW f ih
    | factor => exact factor_rel hT f ih
    | atom => exact atom_rel hT hW f ih
    | formula => exact formula_rel hT f ih
    | lit => exact lit_rel hT f ih
    | _ => exact left_rel hl (hon _) (ih _)
end
end Go.Proofs.YtekccolabhfopaaGreatDoor
end
section
/- Plain facts: the fuel of the readers is enough; no program in sight. -/
namespace Go.Proofs.YtekccolabhfopaaGreatDoor
/-- From index m on a reader answers. -/
def OkR (T : List Tok) (m : Nat) (r : Rd) : Prop := ∀ lv i, m ≤ i → i < T.length → r lv i ≠ .none
section
variable {T : List Tok} {m i lv : Nat} {res : List UInt8 → Bool}
theorem nn_bind {α β : Type} {o : Out α} {f : α → Nat → Out β} (h : o ≠ .none) (hf : ∀ a j, o = .ok a j → f a j ≠ .none) : o.bind f ≠ .none := by
  cases o with
  | none => exact absurd rfl h
  | err p e => intro h; cases h
  | ok a j => exact hf a j rfl
theorem nn_ok {α : Type} (a : α) (j : Nat) : (Out.ok a j) ≠ .none := fun h => by cases h
theorem nn_fail {α : Type} (e j : Nat) : (fail T e j : Out α) ≠ .none := fun h => by cases h
theorem need_nn (s : List UInt8) (i : Nat) : need T s i ≠ .none := by unfold need; split <;> (intro h; cases h)
theorem name_nn (i : Nat) : name res T i ≠ .none := by unfold name; split <;> (intro h; cases h)
theorem number_nn (i : Nat) : number T i ≠ .none := by unfold number; split <;> (intro h; cases h)
theorem within_nn {r : Rd} (hr : OkR T m r) (hm : m ≤ i) (hi : i < T.length) : within T r lv i ≠ .none := by
  unfold within
  split
  · exact nn_fail _ _
  · exact hr _ _ hm hi
theorem parens_nn {r : Rd} (hl : (tk T (T.length - 1)).kind = 3) (hr : OkR T m r) (hm : m ≤ i + 1) (hi : i < T.length) : parens T r lv i ≠ .none :=
  nn_bind (need_nn _ _) fun _ j h => by
    obtain ⟨h1, h2⟩ := need_on hl _ hi _ _ h
    exact nn_bind (within_nn hr (by omega) h2) fun _ _ _ => nn_bind (need_nn _ _) fun _ _ _ => nn_ok _ _
theorem leftLoop_nn {r : Rd} {ops : List (List UInt8)} (hl : (tk T (T.length - 1)).kind = 3) (ho : OnR T r) (hr : OkR T m r) (g : Nat) : ∀ x i, m ≤ i + 1 → i < T.length → T.length < g + i → leftLoop T r ops lv g x i ≠ .none := by
  induction g with
  | zero => intro x i _ h1 h2; omega
  | succ g ih =>
    intro x i hm hi hg
    unfold leftLoop
    split
    · rename_i h
      obtain ⟨e, h2⟩ := nx_on hl hi (isW_kind h)
      rw [e]
      exact nn_bind (hr _ _ hm h2) fun y j hy => by
        obtain ⟨h3, h4⟩ := ho _ _ h2 _ _ hy
        exact ih _ _ (by omega) h4 (by omega)
    · exact nn_ok _ _
theorem left_nn {r : Rd} {ops : List (List UInt8)} (hl : (tk T (T.length - 1)).kind = 3) (ho : OnR T r) (hr : OkR T m r) : OkR T m (left T r ops) := fun lv i hm hi =>
  nn_bind (hr _ _ hm hi) fun x j hx => by
    obtain ⟨h3, h4⟩ := ho _ _ hi _ _ hx
    exact leftLoop_nn hl ho hr _ _ _ (by omega) h4 (by omega)
theorem argsMore_nn {rs : List Rd} (hl : (tk T (T.length - 1)).kind = 3) (ho : ∀ r ∈ rs, OnR T r) (hr : ∀ r ∈ rs, OkR T m r) : ∀ i, m ≤ i + 1 → i < T.length → argsGo.argsMore T rs lv i ≠ .none := by
  induction rs with
  | nil => intro i _ _; exact nn_ok _ _
  | cons r rs ih =>
    intro i hm hi
    exact nn_bind (need_nn _ _) fun _ j h => by
      obtain ⟨h1, h2⟩ := need_on hl _ hi _ _ h
      exact nn_bind (hr r (List.mem_cons_self ..) _ _ (by omega) h2) fun _ k hk => by
        obtain ⟨h3, h4⟩ := ho r (List.mem_cons_self ..) _ _ h2 _ _ hk
        exact nn_bind (ih (fun r h => ho r (List.mem_cons_of_mem _ h)) (fun r h => hr r (List.mem_cons_of_mem _ h)) _ (by omega) h4) fun _ _ _ => nn_ok _ _
theorem argsGo_nn {rs : List Rd} (hl : (tk T (T.length - 1)).kind = 3) (ho : ∀ r ∈ rs, OnR T r) (hr : ∀ r ∈ rs, OkR T m r) (hm : m ≤ i) (hi : i < T.length) : argsGo T rs lv i ≠ .none := by
  cases rs with
  | nil => exact nn_ok _ _
  | cons r rs =>
    exact nn_bind (hr r (List.mem_cons_self ..) _ _ hm hi) fun _ k hk => by
      obtain ⟨h3, h4⟩ := ho r (List.mem_cons_self ..) _ _ hi _ _ hk
      exact nn_bind (argsMore_nn hl (fun r h => ho r (List.mem_cons_of_mem _ h)) (fun r h => hr r (List.mem_cons_of_mem _ h)) _ (by omega) h4) fun _ _ _ => nn_ok _ _
theorem arguments_nn {rs : List Rd} {w : Tok} (hl : (tk T (T.length - 1)).kind = 3) (ho : ∀ r ∈ rs, OnR T r) (hr : ∀ r ∈ rs, OkR T m r) (hm : m ≤ i + 1) (hi : i < T.length) : arguments T w rs lv i ≠ .none :=
  nn_bind (need_nn _ _) fun _ j h => by
    obtain ⟨h1, h2⟩ := need_on hl _ hi _ _ h
    split
    · exact nn_fail _ _
    · exact nn_bind (argsGo_nn hl ho hr (by omega) h2) fun _ _ _ => nn_bind (need_nn _ _) fun _ _ _ => nn_ok _ _
theorem setLoop_nn (hl : (tk T (T.length - 1)).kind = 3) (g : Nat) : ∀ xs i, i < T.length → T.length < g + i → setLoop T g xs i ≠ .none := by
  induction g with
  | zero => intro x i h1 h2; omega
  | succ g ih =>
    intro x i hi hg
    unfold setLoop
    split
    · rename_i h
      obtain ⟨e, h2⟩ := nx_on hl hi (isW_kind h)
      rw [e]
      exact nn_bind (number_nn _) fun y j hy => by
        obtain ⟨h3, h4⟩ := number_on hl h2 _ _ hy
        exact ih _ _ h4 (by omega)
    · exact nn_ok _ _
theorem setR_nn (hl : (tk T (T.length - 1)).kind = 3) (hi : i < T.length) : setR T i ≠ .none := by
  unfold setR
  split
  · exact nn_ok _ _
  · exact nn_bind (need_nn _ _) fun _ j h => by
      obtain ⟨h1, h2⟩ := need_on hl _ hi _ _ h
      split
      · exact nn_ok _ _
      · exact nn_bind (number_nn _) fun _ k hk => by
          obtain ⟨h3, h4⟩ := number_on hl h2 _ _ hk
          exact nn_bind (setLoop_nn hl _ _ _ h4 (by omega)) fun _ _ _ => nn_bind (need_nn _ _) fun _ _ _ => nn_ok _ _
def rank : NT → Nat
  | .cond => 5 | .conj => 4 | .neg => 3 | .sum => 2 | .unit => 1
  | .scheme => 4 | .term => 3 | .factor => 2 | .atom => 1
  | .formula => 4 | .disj => 3 | .meet => 2 | .lit => 1
theorem notR_nn {r : Rd} (hl : (tk T (T.length - 1)).kind = 3) (hr : OkR T m r) (hm : m ≤ i + 1) (hi : i < T.length) (hk : (tk T i).kind ≠ 3) : notR T r lv i ≠ .none := by
  obtain ⟨e, h2⟩ := nx_on hl hi hk
  unfold notR
  rw [e]
  exact nn_bind (within_nn hr hm h2) fun _ _ _ => nn_ok _ _
theorem rd_nn (hl : (tk T (T.length - 1)).kind = 3) (f : Nat) : ∀ nt lv i, i < T.length → 16 * (T.length - i) + rank nt ≤ f → rd res T f nt lv i ≠ .none := by
  induction f with
  | zero => intro nt lv i _ h; cases nt <;> simp [rank] at h
  | succ f ih =>
    intro nt lv i hi hf
    have on : ∀ nt, OnR T (rd res T f nt) := rd_on hl f
    have hs : ∀ nt', rank nt' < rank nt → OkR T i (rd res T f nt') := fun nt' h lv j h1 h2 => ih nt' lv j h2 (by omega)
    have hn : ∀ nt', OkR T (i + 1) (rd res T f nt') := fun nt' lv j h1 h2 => ih nt' lv j h2 (by
      have : rank nt' ≤ 5 := by cases nt' <;> decide
      omega)
    have num : OkR T (i + 1) (fun _ => number T) := fun _ _ _ _ => number_nn _
    have set : OkR T (i + 1) (fun _ => setR T) := fun _ _ _ h => setR_nn hl h
    have onum : OnR T (fun _ => number T) := fun _ _ h => number_on hl h
    have oset : OnR T (fun _ => setR T) := fun _ _ h => setR_on hl h
    have hargs : ∀ ws, isW T ws i = true → ∀ rds : List Rd, (∀ r ∈ rds, OnR T r ∧ OkR T (i + 1) r) → arguments T (tk T i) rds lv (nx T i) ≠ .none := fun ws h rds hr => by
      obtain ⟨e, h2⟩ := nx_on hl hi (isW_kind h)
      rw [e]
      exact arguments_nn hl (fun r h => (hr r h).1) (fun r h => (hr r h).2) (by omega) h2
    have one : ∀ {r : Rd}, OnR T r ∧ OkR T (i + 1) r → ∀ x ∈ [r], OnR T x ∧ OkR T (i + 1) x := fun h x hx => by rw [List.mem_singleton.1 hx]; exact h
    have two : ∀ {r r' : Rd}, OnR T r ∧ OkR T (i + 1) r → OnR T r' ∧ OkR T (i + 1) r' → ∀ x ∈ [r, r'], OnR T x ∧ OkR T (i + 1) x := fun h h' x hx => by
      simp only [List.mem_cons, List.not_mem_nil, or_false] at hx
      rcases hx with rfl | rfl
      · exact h
      · exact h'
    cases nt with
    | cond => exact left_nn hl (on _) (hs _ (by decide)) _ _ (Nat.le_refl _) hi
    | conj => exact left_nn hl (on _) (hs _ (by decide)) _ _ (Nat.le_refl _) hi
    | sum => exact left_nn hl (on _) (hs _ (by decide)) _ _ (Nat.le_refl _) hi
    | scheme => exact left_nn hl (on _) (hs _ (by decide)) _ _ (Nat.le_refl _) hi
    | term => exact left_nn hl (on _) (hs _ (by decide)) _ _ (Nat.le_refl _) hi
    | disj => exact left_nn hl (on _) (hs _ (by decide)) _ _ (Nat.le_refl _) hi
    | meet => exact left_nn hl (on _) (hs _ (by decide)) _ _ (Nat.le_refl _) hi
    | neg =>
      show (if _ then _ else if _ then _ else _ : Out Syn) ≠ .none
      split
      · rename_i h; exact notR_nn hl (hn _) (Nat.le_refl _) hi (isW_kind h)
      · split
        · rename_i h
          obtain ⟨e, h2⟩ := nx_on hl hi (isW_kind h)
          rw [e]
          exact nn_bind (name_nn _) fun _ j hj => nn_bind (need_nn _ _) fun _ k hk => by
            obtain ⟨h3, h4⟩ := name_on hl h2 _ _ hj
            obtain ⟨h5, h6⟩ := need_on hl _ h4 _ _ hk
            exact nn_bind (within_nn (hn _) (by omega) h6) fun _ _ _ => nn_ok _ _
        · exact nn_bind (hs .sum (by decide) _ _ (Nat.le_refl _) hi) fun x j hx => by
            obtain ⟨h3, h4⟩ := on .sum _ _ hi _ _ hx
            split
            · rename_i h
              obtain ⟨e, h2⟩ := nx_on hl h4 (isW_kind h)
              rw [e]
              exact nn_bind (hn .sum _ _ (by omega) h2) fun _ _ _ => nn_ok _ _
            · exact nn_ok _ _
    | unit =>
      show (if _ then _ else if _ then _ else if _ then _ else if _ then _ else if _ then _ else _ : Out Syn) ≠ .none
      split
      · exact number_nn _
      · split
        · rename_i h; exact hargs _ h _ (one ⟨on _, hn _⟩)
        · split
          · rename_i h; exact hargs _ h _ (two ⟨on _, hn _⟩ ⟨on _, hn _⟩)
          · split
            · rename_i h
              obtain ⟨e, h2⟩ := nx_on hl hi (isW_kind h)
              rw [e]
              exact nn_bind (name_nn _) fun _ j hj => by
                obtain ⟨h3, h4⟩ := name_on hl h2 _ _ hj
                exact nn_bind (parens_nn hl (hn _) (by omega) h4) fun _ _ _ => nn_ok _ _
            · split
              · exact parens_nn hl (hn _) (Nat.le_refl _) hi
              · exact name_nn _
    | factor =>
      exact nn_bind (hs .atom (by decide) _ _ (Nat.le_refl _) hi) fun x j hx => by
        obtain ⟨h3, h4⟩ := on .atom _ _ hi _ _ hx
        split
        · rename_i h
          obtain ⟨e, h2⟩ := nx_on hl h4 (isW_kind h)
          rw [e]
          exact nn_bind (number_nn _) fun _ k hk => by
            obtain ⟨h5, h6⟩ := number_on hl h2 _ _ hk
            exact nn_bind (within_nn (hn .factor) (by omega) h6) fun _ _ _ => nn_ok _ _
        · exact nn_ok _ _
    | atom =>
      show (if _ then _ else if _ then _ else if _ then _ else if _ then _ else _ : Out Syn) ≠ .none
      split
      · rename_i h; exact hargs _ h _ (one ⟨onum, num⟩)
      · split
        · exact nn_ok _ _
        · split
          · rename_i h; exact hargs _ h _ (one ⟨on _, hn _⟩)
          · split
            · exact parens_nn hl (hn _) (Nat.le_refl _) hi
            · exact name_nn _
    | formula =>
      exact nn_bind (hs .disj (by decide) _ _ (Nat.le_refl _) hi) fun x j hx => by
        obtain ⟨h3, h4⟩ := on .disj _ _ hi _ _ hx
        split
        · rename_i h
          obtain ⟨e, h2⟩ := nx_on hl h4 (isW_kind h)
          rw [e]
          exact nn_bind (within_nn (hn .formula) (by omega) h2) fun _ _ _ => nn_ok _ _
        · exact nn_ok _ _
    | lit =>
      show (if _ then _ else if _ then _ else if _ then _ else if _ then _ else if _ then _ else if _ then _ else if _ then _ else if _ then _ else _ : Out Syn) ≠ .none
      split
      · rename_i h; exact notR_nn hl (hn _) (Nat.le_refl _) hi (isW_kind h)
      · split
        · exact nn_ok _ _
        · split
          · exact parens_nn hl (hn _) (Nat.le_refl _) hi
          · split
            · rename_i h; exact hargs _ h _ (two ⟨onum, num⟩ ⟨onum, num⟩)
            · split
              · rename_i h; exact hargs _ h _ (one ⟨onum, num⟩)
              · split
                · rename_i h; exact hargs _ h _ (two ⟨onum, num⟩ ⟨on _, hn _⟩)
                · split
                  · rename_i h; exact hargs _ h _ (two ⟨oset, set⟩ ⟨on _, hn _⟩)
                  · split
                    · rename_i h; exact hargs _ h _ (one ⟨on _, hn _⟩)
                    · exact nn_fail _ _
end
end Go.Proofs.YtekccolabhfopaaGreatDoor
end
