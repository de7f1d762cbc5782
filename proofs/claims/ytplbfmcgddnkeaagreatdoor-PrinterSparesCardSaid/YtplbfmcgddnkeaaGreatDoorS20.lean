/- Joined: Tame, SimB, SimC, OpenS. -/
import Derived.Deep.Slices
import Derived.Deep.Fields
import Derived.ChangeSame
import Derived.Carry
import Derived.OpenShut
import Derived.Test.YtplbfmcgddnkeaaGreatDoorS19
import Derived.Test.YtplbfmcgddnkeaaGreatDoorS15
import Derived.Test.YtplbfmcgddnkeaaGreatDoorS05
set_option linter.unusedVariables false
set_option linter.unusedSimpArgs false
section
namespace Go.Proofs.YtplbfmcgddnkeaaGreatDoor
theorem mFail_i (T : List Tok) (e : Int) (s : St) : (mFail T e s).i = s.i := by unfold mFail; split <;> rfl
theorem mFail_lv (T : List Tok) (e : Int) (s : St) : (mFail T e s).lv = s.lv := by unfold mFail; split <;> rfl
theorem mTake_lv (T : List Tok) (s : St) : (mTake T s).lv = s.lv := by unfold mTake; split <;> rfl
theorem mNeed_lv (T : List Tok) (x : List UInt8) (s : St) : (mNeed T x s).lv = s.lv := by unfold mNeed; rw [mTake_lv]; split <;> simp [mFail_lv]
section
variable {res : List UInt8 → Bool} {T : List Tok}
theorem mName_lv (s : St) : (mName res T s).2.lv = s.lv := by unfold mName; dsimp only; rw [mTake_lv]; split <;> simp [mFail_lv]
theorem mNumber_lv (s : St) : (mNumber T s).2.lv = s.lv := by unfold mNumber; dsimp only; rw [mTake_lv]; split <;> simp [mFail_lv]
theorem mPush_lv (s : St) : (mPush T s).lv = s.lv + 1 := by unfold mPush; split <;> simp [mFail_lv, mUp]
theorem mPop_lv (s : St) : (mPop s).lv = s.lv - 1 := rfl
theorem mTake_e (s : St) : (mTake T s).er = s.er := by unfold mTake; split <;> rfl
theorem mTake_z {s : St} (h : (mTake T s).er = 0) : s.er = 0 := mTake_e s ▸ h
theorem mFail4_z {s : St} (h : (mFail T 4 s).er = 0) : s.er = 0 := by
  unfold mFail at h
  split at h
  · assumption
  · exact h
theorem mFail12_z {s : St} (h : (mFail T 12 s).er = 0) : s.er = 0 := by
  unfold mFail at h
  split at h
  · assumption
  · exact h
theorem mNeed_z {w : List UInt8} {s : St} (h : (mNeed T w s).er = 0) : s.er = 0 := by
  unfold mNeed at h
  replace h := mTake_z h
  split at h
  · exact h
  · exact mFail4_z h
theorem mName_z {s : St} (h : (mName res T s).2.er = 0) : s.er = 0 := by
  unfold mName at h
  replace h := mTake_z h
  split at h
  · exact h
  · exact mFail4_z h
theorem mNumber_z {s : St} (h : (mNumber T s).2.er = 0) : s.er = 0 := by
  unfold mNumber at h
  replace h := mTake_z h
  split at h
  · exact h
  · exact mFail4_z h
theorem mPush_z {s : St} (h : (mPush T s).er = 0) : s.er = 0 := by
  unfold mPush at h
  split at h
  · exact show (mUp s).er = 0 from mFail12_z h
  · exact h
theorem mPop_z {s : St} (h : (mPop s).er = 0) : s.er = 0 := h
def Lv (s : St) : Prop := s.er = 0 → s.lv ≤ 128
theorem Lv.take {s : St} (h : Lv s) : Lv (mTake T s) := fun e => by rw [mTake_lv]; exact h (mTake_z e)
theorem Lv.need {w : List UInt8} {s : St} (h : Lv s) : Lv (mNeed T w s) := fun e => by rw [mNeed_lv]; exact h (mNeed_z e)
theorem Lv.fail {s : St} (h : Lv s) : Lv (mFail T 4 s) := fun e => by rw [mFail_lv]; exact h (mFail4_z e)
theorem Lv.name {s : St} (h : Lv s) : Lv (mName res T s).2 := fun e => by rw [mName_lv]; exact h (mName_z e)
theorem Lv.number {s : St} (h : Lv s) : Lv (mNumber T s).2 := fun e => by rw [mNumber_lv]; exact h (mNumber_z e)
theorem Lv.push (s : St) : Lv (mPush T s) := fun e => by
  unfold mPush at e ⊢
  split at e
  · rename_i h
    have h0 := mFail12_z e
    unfold mFail at e
    rw [if_pos h0] at e
    cases e
  · rename_i h
    rw [if_neg h]
    unfold mUp
    dsimp only
    omega
def TameA {α : Type} (m : St → Option (α × St)) : Prop := ∀ s t s', m s = some (t, s') → s'.lv = s.lv ∧ (s'.er = 0 → s.er = 0)
abbrev Tame (m : MRd) : Prop := TameA m
theorem TameA.lv {α : Type} {m : St → Option (α × St)} (hm : TameA m) {s s' : St} {t : α} (h : m s = some (t, s')) (hl : Lv s) : Lv s' := fun e => by
  obtain ⟨h1, h2⟩ := hm _ _ _ h
  rw [h1]; exact hl (h2 e)
theorem tame_step {α β : Type} {m : St → Option (α × St)} (hm : TameA m) {s s1 s' : St} {t : β} {k : α × St → Option (β × St)} (h : (m s1).bind k = some (t, s'))
    (hk : ∀ p, k p = some (t, s') → s1.lv - s.lv = s1.lv - s.lv → p.2.lv = s1.lv → (p.2.er = 0 → s1.er = 0) → s'.lv = s.lv ∧ (s'.er = 0 → s.er = 0)) : s'.lv = s.lv ∧ (s'.er = 0 → s.er = 0) := by
  obtain ⟨p, hp, he⟩ := Option.bind_eq_some_iff.1 h
  obtain ⟨a1, a2⟩ := hm s1 p.1 p.2 hp
  exact hk p he rfl a1 a2
theorem leftLoop_tame {r : MRd} {ops : List (List UInt8)} (hr : Tame r) (g : Nat) : ∀ x, Tame (mLeftLoop T r ops g x) := by
  induction g with
  | zero => intro x s t s' h; cases h
  | succ g ih =>
    intro x s t s' h
    rw [mLeftLoop] at h
    split at h
    · refine tame_step hr h fun p hp _ h1 h2 => ?_
      obtain ⟨a1, a2⟩ := ih _ _ _ _ hp
      rw [mTake_lv] at h1
      exact ⟨a1.trans h1, fun e => mTake_z (h2 (a2 e))⟩
    · cases h; exact ⟨rfl, id⟩
theorem left_tame {r : MRd} {ops : List (List UInt8)} (hr : Tame r) : Tame (mLeft T r ops) := fun s t s' h => by
  unfold mLeft at h
  split at h
  · cases h; exact ⟨rfl, id⟩
  · refine tame_step hr h fun p hp _ h1 h2 => ?_
    obtain ⟨a1, a2⟩ := leftLoop_tame hr _ _ _ _ _ hp
    exact ⟨a1.trans h1, fun e => h2 (a2 e)⟩
theorem setLoop_tame (g : Nat) : ∀ xs, TameA (mSetLoop T g xs) := by
  induction g with
  | zero => intro x s t s' h; cases h
  | succ g ih =>
    intro x s t s' h
    rw [mSetLoop] at h
    split at h
    · obtain ⟨a1, a2⟩ := ih _ _ _ _ h
      rw [mNumber_lv, mTake_lv] at a1
      exact ⟨a1, fun e => mTake_z (mNumber_z (a2 e))⟩
    · cases h; exact ⟨rfl, id⟩
theorem set_tame : Tame (mSet T) := fun s t s' h => by
  unfold mSet at h
  split at h
  · cases h; exact ⟨mTake_lv _ _, fun e => mTake_z e⟩
  split at h
  · refine tame_step (setLoop_tame _ _) h fun p hp _ h1 h2 => ?_
    cases hp
    rw [mNumber_lv, mNeed_lv] at h1
    exact ⟨(mNeed_lv _ _ _).trans h1, fun e => mNeed_z (mNumber_z (h2 (mNeed_z e)))⟩
  · cases h; exact ⟨by rw [mNeed_lv, mNeed_lv], fun e => mNeed_z (mNeed_z e)⟩
theorem args_tame {fo : MRd} (hf : Tame fo) (w : List UInt8) : TameA (mArgs T fo w) := fun s t s' h => by
  unfold mArgs at h
  split at h
  · cases h; exact ⟨by rw [mNumber_lv, mNeed_lv, mNumber_lv], fun e => mNumber_z (mNeed_z (mNumber_z e))⟩
  split at h
  · cases h; exact ⟨by rw [mNumber_lv], fun e => mNumber_z e⟩
  split at h
  · refine tame_step hf h fun p hp _ h1 h2 => ?_
    cases hp
    rw [mNeed_lv, mNumber_lv] at h1
    exact ⟨h1, fun e => mNumber_z (mNeed_z (h2 e))⟩
  split at h
  · refine tame_step set_tame h fun p hp _ h1 h2 => ?_
    refine tame_step hf hp fun q hq _ h3 h4 => ?_
    cases hq
    rw [mNeed_lv] at h3
    exact ⟨h3.trans h1, fun e => h2 (mNeed_z (h4 e))⟩
  · refine tame_step hf h fun p hp _ h1 h2 => ?_
    cases hp
    exact ⟨h1, h2⟩
theorem mrd_tame (f : Nat) : ∀ nt, Tame (mrd res T f nt) := by
  induction f with
  | zero => intro nt s t s' h; cases h
  | succ f ih =>
    intro nt
    cases nt with
    | cond => exact left_tame (ih _)
    | conj => exact left_tame (ih _)
    | sum => exact left_tame (ih _)
    | scheme => exact left_tame (ih _)
    | term => exact left_tame (ih _)
    | disj => exact left_tame (ih _)
    | meet => exact left_tame (ih _)
    | neg =>
      intro s t s' h
      rw [mrd] at h
      dsimp only at h
      split at h
      · cases h; exact ⟨rfl, id⟩
      split at h
      · refine tame_step (ih _) h fun p hp _ h1 h2 => ?_
        cases hp
        rw [mPush_lv, mTake_lv] at h1
        exact ⟨by rw [mPop_lv, h1]; rfl, fun e => mTake_z (mPush_z (h2 e))⟩
      split at h
      · refine tame_step (ih _) h fun p hp _ h1 h2 => ?_
        cases hp
        rw [mPush_lv, mNeed_lv, mName_lv, mTake_lv] at h1
        exact ⟨by rw [mPop_lv, h1]; rfl, fun e => mTake_z (mName_z (mNeed_z (mPush_z (h2 e))))⟩
      · refine tame_step (ih _) h fun p hp _ h1 h2 => ?_
        split at hp
        · refine tame_step (ih _) hp fun q hq _ h3 h4 => ?_
          cases hq
          rw [mTake_lv] at h3
          exact ⟨h3.trans h1, fun e => h2 (mTake_z (h4 e))⟩
        · cases hp; exact ⟨h1, h2⟩
    | unit =>
      intro s t s' h
      rw [mrd] at h
      dsimp only at h
      split at h
      · cases h; exact ⟨rfl, id⟩
      split at h
      · cases h; exact ⟨mNumber_lv _, mNumber_z⟩
      split at h
      · cases h; exact ⟨mName_lv _, mName_z⟩
      split at h
      · refine tame_step (ih _) h fun p hp _ h1 h2 => ?_
        cases hp
        rw [mPush_lv, mTake_lv] at h1
        exact ⟨by rw [mNeed_lv, mPop_lv, h1]; rfl, fun e => mTake_z (mPush_z (h2 (mPop_z (mNeed_z e))))⟩
      split at h
      · refine tame_step (ih _) h fun p hp _ h1 h2 => ?_
        cases hp
        rw [mPush_lv, mNeed_lv, mTake_lv] at h1
        exact ⟨by rw [mNeed_lv, mPop_lv, h1]; rfl, fun e => mTake_z (mNeed_z (mPush_z (h2 (mPop_z (mNeed_z e)))))⟩
      split at h
      · refine tame_step (ih _) h fun p hp _ h1 h2 => ?_
        refine tame_step (ih _) hp fun q hq _ h3 h4 => ?_
        cases hq
        rw [mPush_lv, mNeed_lv, mTake_lv] at h1
        rw [mNeed_lv] at h3
        exact ⟨by rw [mNeed_lv, mPop_lv, h3, h1]; rfl, fun e => mTake_z (mNeed_z (mPush_z (h2 (mNeed_z (h4 (mPop_z (mNeed_z e)))))))⟩
      split at h
      · refine tame_step (ih _) h fun p hp _ h1 h2 => ?_
        cases hp
        rw [mPush_lv, mNeed_lv, mName_lv, mTake_lv] at h1
        exact ⟨by rw [mNeed_lv, mPop_lv, h1]; rfl, fun e => mTake_z (mName_z (mNeed_z (mPush_z (h2 (mPop_z (mNeed_z e))))))⟩
      · cases h; exact ⟨mFail_lv _ _ _, mFail4_z⟩
    | factor =>
      intro s t s' h
      rw [mrd] at h
      dsimp only at h
      split at h
      · cases h; exact ⟨rfl, id⟩
      refine tame_step (ih _) h fun p hp _ h1 h2 => ?_
      split at hp
      · refine tame_step (ih _) hp fun q hq _ h3 h4 => ?_
        cases hq
        rw [mPush_lv, mNumber_lv, mTake_lv] at h3
        exact ⟨by rw [mPop_lv, h3, h1]; rfl, fun e => h2 (mTake_z (mNumber_z (mPush_z (h4 e))))⟩
      · cases hp; exact ⟨h1, h2⟩
    | atom =>
      intro s t s' h
      rw [mrd] at h
      dsimp only at h
      split at h
      · cases h; exact ⟨mName_lv _, mName_z⟩
      split at h
      · cases h
        exact ⟨by rw [mNeed_lv, mPop_lv, mNumber_lv, mPush_lv, mNeed_lv, mTake_lv]; rfl, fun e => mTake_z (mNeed_z (mPush_z (mNumber_z (mPop_z (mNeed_z e)))))⟩
      split at h
      · cases h; exact ⟨mTake_lv _ _, mTake_z⟩
      split at h
      · refine tame_step (ih _) h fun p hp _ h1 h2 => ?_
        cases hp
        rw [mPush_lv, mNeed_lv, mTake_lv] at h1
        exact ⟨by rw [mNeed_lv, mPop_lv, h1]; rfl, fun e => mTake_z (mNeed_z (mPush_z (h2 (mPop_z (mNeed_z e)))))⟩
      split at h
      · refine tame_step (ih _) h fun p hp _ h1 h2 => ?_
        cases hp
        rw [mPush_lv, mTake_lv] at h1
        exact ⟨by rw [mNeed_lv, mPop_lv, h1]; rfl, fun e => mTake_z (mPush_z (h2 (mPop_z (mNeed_z e))))⟩
      · cases h; exact ⟨mFail_lv _ _ _, mFail4_z⟩
    | formula =>
      intro s t s' h
      rw [mrd] at h
      dsimp only at h
      refine tame_step (ih _) h fun p hp _ h1 h2 => ?_
      split at hp
      · refine tame_step (ih _) hp fun q hq _ h3 h4 => ?_
        cases hq
        rw [mPush_lv, mTake_lv] at h3
        exact ⟨by rw [mPop_lv, h3, h1]; rfl, fun e => h2 (mTake_z (mPush_z (h4 e)))⟩
      · cases hp; exact ⟨h1, h2⟩
    | lit =>
      intro s t s' h
      rw [mrd] at h
      dsimp only at h
      split at h
      · cases h; exact ⟨rfl, id⟩
      split at h
      · refine tame_step (ih _) h fun p hp _ h1 h2 => ?_
        cases hp
        rw [mPush_lv, mTake_lv] at h1
        exact ⟨by rw [mPop_lv, h1]; rfl, fun e => mTake_z (mPush_z (h2 e))⟩
      split at h
      · cases h; exact ⟨mTake_lv _ _, mTake_z⟩
      split at h
      · refine tame_step (ih _) h fun p hp _ h1 h2 => ?_
        cases hp
        rw [mPush_lv, mTake_lv] at h1
        exact ⟨by rw [mNeed_lv, mPop_lv, h1]; rfl, fun e => mTake_z (mPush_z (h2 (mPop_z (mNeed_z e))))⟩
      split at h
      · refine tame_step (args_tame (ih _) _) h fun p hp _ h1 h2 => ?_
        cases hp
        rw [mPush_lv, mNeed_lv, mTake_lv] at h1
        exact ⟨by rw [mNeed_lv, mPop_lv, h1]; rfl, fun e => mTake_z (mNeed_z (mPush_z (h2 (mPop_z (mNeed_z e)))))⟩
      · cases h; exact ⟨mFail_lv _ _ _, mFail4_z⟩
end
end Go.Proofs.YtplbfmcgddnkeaaGreatDoor
end
section
namespace Go.Proofs.YtplbfmcgddnkeaaGreatDoor
section
variable {res : List UInt8 → Bool} {T : List Tok} {lv lv' i : Nat} {a : Int}
theorem not_rel {r : Rd} {m : MRd} (hl : (tk T (T.length - 1)).kind = 3) (hr : RelR T r m) (hm : Idle m) (hi : i < T.length) (hw : isW T [kNot] i = true) :
    Rel (notR T r lv i) ((m (mPush T (mTake T ⟨i, lv, 0, a⟩))).bind fun p => some (Syn.mk 12 [] 0 (tk T i).pos [p.1], mPop p.2)) lv a := by
  obtain ⟨h1, h2⟩ := nx_on hl hi (isW_kind hw)
  rw [mTake_ok hl hi (isW_kind hw)]
  exact (within_rel hr hm (by omega)).bind (fun x j _ => rfl) fun t i' e p he => ⟨_, _, rfl⟩
theorem neg_rel (hT : TokOk T) (f : Nat) (ih : ∀ nt, RelR T (rd res T f nt) (mrd res T (f + 2) nt)) : RelR T (rd res T (f + 1) .neg) (mrd res T (f + 3) .neg) := fun lv i a hi => by
  have hl := hT.last
  have hon := fun nt => rd_on (res := res) hl f nt
  have hid := fun nt => mrd_idle (res := res) (T := T) f nt
  rw [rd, mrd]
  dsimp only
  rw [if_neg (fun h : (0 : Int) ≠ 0 => h rfl)]
  cases h0 : isW T [kNot] i
  · rw [if_neg Bool.false_ne_true, if_neg Bool.false_ne_true]
    rw [isW_cons [97, 108, 108]]
    by_cases h1 : isW T [[97, 108, 108]] i = true ∨ isW T [[115, 111, 109, 101]] i = true
    · rw [if_pos (by rw [Bool.or_eq_true]; exact h1), if_pos h1]
      have hk3 : (tk T i).kind ≠ 3 := by rcases h1 with h1 | h1 <;> exact isW_kind h1
      obtain ⟨q1, q2⟩ := nx_on hl hi hk3
      rw [mTake_ok hl hi hk3]
      refine Rel.name (M := fun n => (mrd res T (f + 2) .cond (mPush T (mNeed T [58] n.2))).bind fun p => some (Syn.mk 13 (tk T i).text 0 (tk T i).pos [n.1, p.1], mPop p.2)) hl (by omega) (fun h => ?_) fun t i' e p he => ?_
      · refine Rel.need (M := fun s => (mrd res T (f + 2) .cond (mPush T s)).bind fun p => some (Syn.mk 13 (tk T i).text 0 (tk T i).pos [_, p.1], mPop p.2)) hl h (fun _ h => ?_) fun i' e p he => ?_
        · exact (within_rel (ih _) (hid _) h).bind (fun x j _ => rfl) fun t i' e p he => ⟨_, _, rfl⟩
        · obtain ⟨u, hu⟩ := hid .cond ⟨i', lv + 1, e, p⟩ he
          exact ⟨_, _, by (try dsimp only); rw [mPush_er (by exact he), mUp, hu]; rfl⟩
      · obtain ⟨u, hu⟩ := hid .cond ⟨i', lv + 1, e, p⟩ he
        exact ⟨_, _, by (try dsimp only); rw [mNeed_er (by exact he), mPush_er (by exact he), mUp, hu]; rfl⟩
    · rw [if_neg (by rw [Bool.or_eq_true]; exact h1), if_neg h1]
      refine (ih .sum lv i a hi).bind (fun x j hx => ?_) fun t i' e p he => ⟨_, _, if_neg (fun k => he k.1)⟩
      have hj := (hon .sum lv i hi _ _ hx).2
      dsimp only
      cases h2 : isW T [[61], [33, 61], [60], [60, 61]] j
      · rw [if_neg Bool.false_ne_true, if_neg (by simp)]
        exact rfl
      · rw [if_pos (rfl : true = true), if_pos ⟨rfl, rfl⟩]
        obtain ⟨q1, q2⟩ := nx_on hl hj (isW_kind h2)
        rw [mTake_ok hl hj (isW_kind h2)]
        exact (ih .sum lv _ a (by omega)).bind (fun y l _ => rfl) fun t i' e p he => ⟨_, _, rfl⟩
  · rw [if_pos (rfl : true = true), if_pos (rfl : true = true)]
    exact not_rel hl (ih _) (hid _) hi h0
theorem factor_rel (hT : TokOk T) (f : Nat) (ih : ∀ nt, RelR T (rd res T f nt) (mrd res T (f + 2) nt)) : RelR T (rd res T (f + 1) .factor) (mrd res T (f + 3) .factor) := fun lv i a hi => by
  have hl := hT.last
  have hon := fun nt => rd_on (res := res) hl f nt
  have hid := fun nt => mrd_idle (res := res) (T := T) f nt
  rw [rd, mrd]
  dsimp only
  rw [if_neg (fun h : (0 : Int) ≠ 0 => h rfl)]
  refine (ih .atom lv i a hi).bind (fun x j hx => ?_) fun t i' e p he => ⟨_, _, if_neg (fun k => he k.1)⟩
  have hj := (hon .atom lv i hi _ _ hx).2
  dsimp only
  cases h2 : isW T [[116, 104, 101, 110]] j
  · rw [if_neg Bool.false_ne_true, if_neg (by simp)]
    exact rfl
  · rw [if_pos (rfl : true = true), if_pos ⟨rfl, rfl⟩]
    obtain ⟨q1, q2⟩ := nx_on hl hj (isW_kind h2)
    rw [mTake_ok hl hj (isW_kind h2)]
    refine Rel.number (M := fun n => (mrd res T (f + 2) .factor (mPush T n.2)).bind fun q => some (binary [116, 104, 101, 110] n.1.num x q.1, mPop q.2)) hT (by omega) (fun h => ?_) fun t i' e p he => ?_
    · exact (within_rel (ih _) (hid _) h).bind (fun y l _ => rfl) fun t i' e p he => ⟨_, _, rfl⟩
    · obtain ⟨u, hu⟩ := hid .factor ⟨i', lv + 1, e, p⟩ he
      exact ⟨_, _, by (try dsimp only); rw [mPush_er (by exact he), mUp, hu]; rfl⟩
theorem formula_rel (hT : TokOk T) (f : Nat) (ih : ∀ nt, RelR T (rd res T f nt) (mrd res T (f + 2) nt)) : RelR T (rd res T (f + 1) .formula) (mrd res T (f + 3) .formula) := fun lv i a hi => by
  have hl := hT.last
  have hon := fun nt => rd_on (res := res) hl f nt
  have hid := fun nt => mrd_idle (res := res) (T := T) f nt
  rw [rd, mrd]
  dsimp only
  refine (ih .disj lv i a hi).bind (fun x j hx => ?_) fun t i' e p he => ⟨_, _, if_neg (fun k => he k.1)⟩
  have hj := (hon .disj lv i hi _ _ hx).2
  dsimp only
  cases h2 : isW T [[117, 110, 116, 105, 108]] j
  · rw [if_neg Bool.false_ne_true, if_neg (by simp)]
    exact rfl
  · rw [if_pos (rfl : true = true), if_pos ⟨rfl, rfl⟩]
    obtain ⟨q1, q2⟩ := nx_on hl hj (isW_kind h2)
    rw [mTake_ok hl hj (isW_kind h2)]
    exact (within_rel (ih _) (hid _) (by omega)).bind (fun y l _ => rfl) fun t i' e p he => ⟨_, _, rfl⟩
theorem isW_mem {ws : List (List UInt8)} (h : isW T ws i = true) : (tk T i).text ∈ ws := by
  unfold isW at h
  simp only [Bool.and_eq_true, List.contains_iff_mem] at h
  exact h.2
theorem lit_rel (hT : TokOk T) (f : Nat) (ih : ∀ nt, RelR T (rd res T f nt) (mrd res T (f + 2) nt)) : RelR T (rd res T (f + 1) .lit) (mrd res T (f + 3) .lit) := fun lv i a hi => by
  have hl := hT.last
  have hon := fun nt => rd_on (res := res) hl f nt
  have hid := fun nt => mrd_idle (res := res) (T := T) f nt
  rw [rd, mrd]
  dsimp only
  rw [if_neg (fun h : (0 : Int) ≠ 0 => h rfl)]
  cases h0 : isW T [kNot] i
  · rw [if_neg Bool.false_ne_true, if_neg Bool.false_ne_true]
    cases h1 : isW T [[116, 114, 117, 101]] i
    · rw [if_neg Bool.false_ne_true, if_neg Bool.false_ne_true]
      cases h2 : isW T [[40]] i
      · rw [if_neg Bool.false_ne_true, if_neg Bool.false_ne_true]
        have hgo : ∀ rs : List Rd, (tk T i).kind ≠ 3 → (∀ r ∈ rs, OnR T r) → (∀ i, i < T.length → Rel (argsGo T rs (lv + 1) i) (mArgs T (mrd res T (f + 2) .formula) (tk T i).text ⟨i, lv + 1, 0, a⟩) (lv + 1) a) → True := fun _ _ _ _ => trivial
        clear hgo
        have hgo : ∀ rs : List Rd, (tk T i).kind ≠ 3 → (∀ r ∈ rs, OnR T r) → (∀ j, j < T.length → Rel (argsGo T rs (lv + 1) j) (mArgs T (mrd res T (f + 2) .formula) (tk T i).text ⟨j, lv + 1, 0, a⟩) (lv + 1) a) →
            Rel (arguments T (tk T i) rs lv (nx T i)) ((mArgs T (mrd res T (f + 2) .formula) (tk T i).text (mPush T (mNeed T [40] (mTake T ⟨i, lv, 0, a⟩)))).bind fun p => some (Syn.mk 10 (tk T i).text 0 (tk T i).pos p.1, mNeed T [41] (mPop p.2))) lv a := by
          intro rs hk3 ho hr
          obtain ⟨q1, q2⟩ := nx_on hl hi hk3
          rw [mTake_ok hl hi hk3]
          exact args_rel (lv := lv) (a := a) (i := nx T i) (rs := rs) hl hr ho (mArgs_idle (hid _) _) (by omega) (tk T i)
        have on1 : ∀ r ∈ [fun _ => number T], OnR T r := fun r hr => by rw [List.mem_singleton.1 hr]; exact fun _ _ h => number_on hl h
        have on2 : ∀ r ∈ [fun _ => number T, fun _ => number T], OnR T r := fun r hr => by simp only [List.mem_cons, List.not_mem_nil, or_false, or_self] at hr; rw [hr]; exact fun _ _ h => number_on hl h
        have on3 : ∀ r ∈ [fun _ => number T, rd res T f .formula], OnR T r := fun r hr => by
          simp only [List.mem_cons, List.not_mem_nil, or_false] at hr
          rcases hr with rfl | rfl
          · exact fun _ _ h => number_on hl h
          · exact hon _
        have on4 : ∀ r ∈ [fun _ => setR T, rd res T f .formula], OnR T r := fun r hr => by
          simp only [List.mem_cons, List.not_mem_nil, or_false] at hr
          rcases hr with rfl | rfl
          · exact fun _ _ h => setR_on hl h
          · exact hon _
        have on5 : ∀ r ∈ [rd res T f .formula], OnR T r := fun r hr => by rw [List.mem_singleton.1 hr]; exact hon _
        have r1 : ∀ j, j < T.length → Rel (argsGo T [fun _ => number T] (lv + 1) j) (some ([(mNumber T ⟨j, lv + 1, 0, a⟩).1], (mNumber T ⟨j, lv + 1, 0, a⟩).2)) (lv + 1) a := fun j hj => one_rel (num_rel hT) hj
        have r2 : ∀ j, j < T.length → Rel (argsGo T [fun _ => number T, fun _ => number T] (lv + 1) j) (some ([(mNumber T ⟨j, lv + 1, 0, a⟩).1, (mNumber T (mNeed T [44] (mNumber T ⟨j, lv + 1, 0, a⟩).2)).1], (mNumber T (mNeed T [44] (mNumber T ⟨j, lv + 1, 0, a⟩).2)).2)) (lv + 1) a :=
          fun j hj => two_rel hl (num_rel hT) (fun _ _ h => number_on hl h) (num_rel hT) num_idle hj
        have r3 : ∀ j, j < T.length → Rel (argsGo T [fun _ => number T, rd res T f .formula] (lv + 1) j) ((mrd res T (f + 2) .formula (mNeed T [44] (mNumber T ⟨j, lv + 1, 0, a⟩).2)).bind fun p => some ([(mNumber T ⟨j, lv + 1, 0, a⟩).1, p.1], p.2)) (lv + 1) a :=
          fun j hj => two_rel hl (num_rel hT) (fun _ _ h => number_on hl h) (ih _) (hid _) hj
        have r4 : ∀ j, j < T.length → Rel (argsGo T [fun _ => setR T, rd res T f .formula] (lv + 1) j) ((mSet T ⟨j, lv + 1, 0, a⟩).bind fun q => (mrd res T (f + 2) .formula (mNeed T [44] q.2)).bind fun p => some ([q.1, p.1], p.2)) (lv + 1) a :=
          fun j hj => two_rel hl (set_rel hT) (fun _ _ h => setR_on hl h) (ih _) (hid _) hj
        have r5 : ∀ j, j < T.length → Rel (argsGo T [rd res T f .formula] (lv + 1) j) ((mrd res T (f + 2) .formula ⟨j, lv + 1, 0, a⟩).bind fun p => some ([p.1], p.2)) (lv + 1) a := fun j hj => one_rel (ih _) hj
        have hall : isW T [[105, 110, 112, 117, 116], [104, 101, 97, 114, 100], [100, 101, 99, 105, 100, 101, 100], [103, 105, 118, 101, 110], [102, 97, 117, 108, 116, 121], [97, 116], [75], [69], [68], [67], [110, 101, 120, 116], [97, 108, 119, 97, 121, 115], [101, 118, 101, 110, 116, 117, 97, 108, 108, 121]] i
            = (isW T [[105, 110, 112, 117, 116], [104, 101, 97, 114, 100], [100, 101, 99, 105, 100, 101, 100]] i || (isW T [[103, 105, 118, 101, 110], [102, 97, 117, 108, 116, 121], [97, 116]] i || (isW T [[75]] i || (isW T [[69], [68], [67]] i || isW T [[110, 101, 120, 116], [97, 108, 119, 97, 121, 115], [101, 118, 101, 110, 116, 117, 97, 108, 108, 121]] i)))) := by
          unfold isW
          cases (decide ((tk T i).kind = 2) || decide ((tk T i).kind = 0))
          · rfl
          · simp only [Bool.true_and, List.contains_cons, Bool.or_assoc, List.contains_nil, Bool.or_false]
        rw [hall]
        cases h3 : isW T [[105, 110, 112, 117, 116], [104, 101, 97, 114, 100], [100, 101, 99, 105, 100, 101, 100]] i
        · rw [if_neg Bool.false_ne_true, Bool.false_or]
          cases h4 : isW T [[103, 105, 118, 101, 110], [102, 97, 117, 108, 116, 121], [97, 116]] i
          · rw [if_neg Bool.false_ne_true, Bool.false_or]
            cases h5 : isW T [[75]] i
            · rw [if_neg Bool.false_ne_true, Bool.false_or]
              cases h6 : isW T [[69], [68], [67]] i
              · rw [if_neg Bool.false_ne_true, Bool.false_or]
                cases h7 : isW T [[110, 101, 120, 116], [97, 108, 119, 97, 121, 115], [101, 118, 101, 110, 116, 117, 97, 108, 108, 121]] i
                · rw [if_neg Bool.false_ne_true, if_neg Bool.false_ne_true]
                  exact fail_rel _
                · rw [if_pos (rfl : true = true), if_pos (rfl : true = true)]
                  refine hgo _ (isW_kind h7) on5 ?_
                  have hm := isW_mem h7
                  generalize (tk T i).text = tx at hm ⊢
                  intro j hj
                  simp only [List.mem_cons, List.not_mem_nil, or_false] at hm
                  rcases hm with rfl | rfl | rfl <;> exact r5 j hj
              · rw [if_pos (rfl : true = true), Bool.true_or, if_pos (rfl : true = true)]
                refine hgo _ (isW_kind h6) on4 ?_
                have hm := isW_mem h6
                generalize (tk T i).text = tx at hm ⊢
                intro j hj
                simp only [List.mem_cons, List.not_mem_nil, or_false] at hm
                rcases hm with rfl | rfl | rfl <;> exact r4 j hj
            · rw [if_pos (rfl : true = true), Bool.true_or, if_pos (rfl : true = true)]
              refine hgo _ (isW_kind h5) on3 ?_
              have hm := isW_mem h5
              generalize (tk T i).text = tx at hm ⊢
              intro j hj
              simp only [List.mem_cons, List.not_mem_nil, or_false] at hm
              subst hm
              exact r3 j hj
          · rw [if_pos (rfl : true = true), Bool.true_or, if_pos (rfl : true = true)]
            refine hgo _ (isW_kind h4) on1 ?_
            have hm := isW_mem h4
            generalize (tk T i).text = tx at hm ⊢
            intro j hj
            simp only [List.mem_cons, List.not_mem_nil, or_false] at hm
            rcases hm with rfl | rfl | rfl <;> exact r1 j hj
        · rw [if_pos (rfl : true = true), Bool.true_or, if_pos (rfl : true = true)]
          refine hgo _ (isW_kind h3) on2 ?_
          have hm := isW_mem h3
          generalize (tk T i).text = tx at hm ⊢
          intro j hj
          simp only [List.mem_cons, List.not_mem_nil, or_false] at hm
          rcases hm with rfl | rfl | rfl <;> exact r2 j hj
      · rw [if_pos (rfl : true = true), if_pos (rfl : true = true)]
        exact parens_rel hl (hon _) (ih _) (hid _) hi h2
    · rw [if_pos (rfl : true = true), if_pos (rfl : true = true), mTake_ok hl hi (isW_kind h1)]
      exact rfl
  · rw [if_pos (rfl : true = true), if_pos (rfl : true = true)]
    exact not_rel hl (ih _) (hid _) hi h0
theorem rd_rel (hT : TokOk T) (hW : Words res) (f : Nat) : ∀ nt, RelR T (rd res T f nt) (mrd res T (f + 2) nt) := by
  induction f with
  | zero => intro nt lv i a _; trivial
  | succ f ih =>
    have hl := hT.last
    have hon := fun nt => rd_on (res := res) hl f nt
    intro nt
    cases nt with
    | neg => exact neg_rel hT f ih
    | unit => exact unit_rel hT hW f ih
    | factor => exact factor_rel hT f ih
    | atom => exact atom_rel hT hW f ih
    | formula => exact formula_rel hT f ih
    | lit => exact lit_rel hT f ih
    | _ => exact left_rel hl (hon _) (ih _)
end
end Go.Proofs.YtplbfmcgddnkeaaGreatDoor
end
section
namespace Go.Proofs.YtplbfmcgddnkeaaGreatDoor
section
variable {res : List UInt8 → Bool} {T : List Tok} {lv lv' i f : Nat} {a : Int}
theorem whole_rel {r : Rd} {m : MRd} (h0 : 0 < T.length) (hr : RelR T r m) : Rel (whole T r) (mWhole T m) 0 0 := by
  unfold whole mWhole
  refine (hr 0 0 0 h0).bind (fun x j hx => ?_) fun t i' e p he => ⟨t, i', by unfold mEnd; split <;> simp [mFail_er, he]⟩
  dsimp only [mEnd]
  by_cases hk : (tk T j).kind = 3
  · rw [if_pos hk, if_pos hk]; exact rfl
  · rw [if_neg hk, if_neg hk]; exact fail_rel _
end
end Go.Proofs.YtplbfmcgddnkeaaGreatDoor
end
section
set_option maxRecDepth 100000
namespace Go.Proofs.YtplbfmcgddnkeaaGreatDoor
open Go.ChangeShapes Go.WideShapes Go.Deep Go.RowKit
theorem list_ofS {α : Type} {R : Nat → α → Prop} : ∀ n : Nat, (∀ i, i < n → ∃ t, R i t) → ∃ ts : List α, ts.length = n ∧ ∀ i (h : i < ts.length), R i ts[i] := by
  intro n
  induction n with
  | zero => intro _; exact ⟨[], rfl, fun i h => by simp at h⟩
  | succ n ih =>
    intro h
    obtain ⟨ts, hl, hr⟩ := ih (fun i hi => h i (by omega))
    obtain ⟨t, ht⟩ := h n (by omega)
    refine ⟨ts ++ [t], by simp [hl], fun i hi => ?_⟩
    by_cases h' : i < ts.length
    · rw [List.getElem_append_left h']; exact hr i h'
    · have : i = n := by simp at hi; omega
      subst this
      rw [List.getElem_append_right (by omega)]
      simpa [hl] using ht
section
variable {H : Type} {enc : TypeId × Value → H} {W : World}
theorem add_noneS (b o k : Nat) : (⟨b, o, none⟩ : Addr).add k = ⟨b, o + k, none⟩ := by
  unfold Addr.add
  by_cases h : k = 0 <;> simp [h]
theorem syn_fields : oneCellFields Tryz.prog (match Tryz.prog.underlying 24 with | some (.struct fs) => fs | _ => #[]) = true := by kernel_rfl
theorem syn_cells5 : Tryz.prog.cellsOf 24 = 5 := by kernel_rfl
theorem syn_of_trod : ∀ (n : Nat) (cs : List Value) (x : DataW H × List MemPlace), DataW.trod enc Tryz.prog W 0 (fun _ => true) true n 24 cs = some x →
    ∃ (t : Syn) (kv : Value), cs = [.int .i64 t.kind, .string ⟨t.text.toArray⟩, .int .i64 t.num, .int .i64 t.pos, kv] ∧ KidR W t.kids kv := by
  intro n
  induction n using Nat.strongRecOn with
  | ind n ih =>
    intro cs x h
    have hs := syn_fields
    rw [Tryz.underlying24] at hs
    obtain ⟨ys, n', hn', hy, hlen, hyl, hfl⟩ := DataW.trod_struct Tryz.underlying24 h
    rw [syn_cells5] at hlen
    obtain ⟨o0, k0⟩ := hone_of hs 0 _ rfl
    obtain ⟨o1, k1⟩ := hone_of hs 1 _ rfl
    obtain ⟨o2, k2⟩ := hone_of hs 2 _ rfl
    obtain ⟨o3, k3⟩ := hone_of hs 3 _ rfl
    obtain ⟨o4, k4⟩ := hone_of hs 4 _ rfl
    have hyl : ys.length = 5 := hyl
    match cs, hlen, ys, hyl with
    | [x0, x1, x2, x3, x4], _, [y0, y1, y2, y3, y4], _ =>
      have f0 := hfl 0 _ rfl
      have f1 := hfl 1 _ rfl
      have f2 := hfl 2 _ rfl
      have f3 := hfl 3 _ rfl
      have f4 := hfl 4 _ rfl
      rw [o0, k0] at f0
      rw [o1, k1] at f1
      rw [o2, k2] at f2
      rw [o3, k3] at f3
      rw [o4, k4] at f4
      obtain ⟨z0, e0, _, _⟩ := DataW.trod_int Tryz.underlying3 (show DataW.trod enc Tryz.prog W 0 (fun _ => true) true n' 3 [x0] = some y0 by simpa using f0)
      obtain ⟨z1, e1, _, _⟩ := DataW.trod_string Tryz.underlying9 (show DataW.trod enc Tryz.prog W 0 (fun _ => true) true n' 9 [x1] = some y1 by simpa using f1)
      obtain ⟨z2, e2, _, _⟩ := DataW.trod_int Tryz.underlying3 (show DataW.trod enc Tryz.prog W 0 (fun _ => true) true n' 3 [x2] = some y2 by simpa using f2)
      obtain ⟨z3, e3, _, _⟩ := DataW.trod_int Tryz.underlying3 (show DataW.trod enc Tryz.prog W 0 (fun _ => true) true n' 3 [x3] = some y3 by simpa using f3)
      have f4' : DataW.trod enc Tryz.prog W 0 (fun _ => true) true n' 22 [x4] = some y4 := by simpa using f4
      have key : ∃ l : List Syn, KidR W l x4 := by
        rcases DataW.trod_slice Tryz.underlying22 f4' with ⟨hc, _⟩ | ⟨a, len, cap, elems, rest, m, hm, hc, _, _, hl, _, hel, hi, _⟩
        · injection hc with hc _; subst hc; exact ⟨[], .nil⟩
        · injection hc with hc _; subst hc
          by_cases hz : len = 0
          · subst hz; exact ⟨[], .nil⟩
          have one : ∀ i, i < len → ∃ t : Syn, ∃ kv, (∀ j (hj : j < 5), W.cell? ((a.add (i * 5)).add j) = [Value.int .i64 t.kind, .string ⟨t.text.toArray⟩, .int .i64 t.num, .int .i64 t.pos, kv][j]?) ∧ KidR W t.kids kv := by
            intro i hil
            have hb := hi i hil
            rw [List.getElem?_eq_getElem (by omega)] at hb
            obtain ⟨cs', g1, g2⟩ := Option.bind_eq_some_iff.1 hb
            rw [syn_cells5] at g1
            obtain ⟨t, kv, hcs, hk⟩ := ih m (by omega) cs' _ g2
            obtain ⟨_, _, hcell⟩ := World.cells?_some g1
            refine ⟨t, kv, fun j hj => ?_, hk⟩
            rw [hcell j hj, hcs]
          obtain ⟨l, hll, hr⟩ := list_ofS len one
          subst hll
          have h0 : 0 < l.length := by omega
          obtain ⟨kv, hc0, -⟩ := hr 0 h0
          obtain ⟨b, o, rfl⟩ : ∃ b o, a = (⟨b, o, none⟩ : Addr) := by
            have := hc0 0 (by omega)
            obtain ⟨b, off, spot⟩ := a
            have hspot : spot = none := by simpa [Addr.add] using World.cell?_spot (a := (Addr.add (Addr.add ⟨b, off, spot⟩ (0 * 5)) 0)) this
            exact ⟨b, off, by rw [hspot]⟩
          refine ⟨l, ?_⟩
          have hr' : ∀ i, ∃ u, ∀ (hi : i < l.length), (∀ j (hj : j < 5), W.cell? (((⟨b, o, none⟩ : Addr).add (i * 5)).add j) = [Value.int .i64 l[i].kind, .string ⟨l[i].text.toArray⟩, .int .i64 l[i].num, .int .i64 l[i].pos, u][j]?) ∧ KidR W l[i].kids u := by
            intro i
            by_cases hi : i < l.length
            · obtain ⟨u, h1, h2⟩ := hr i hi
              exact ⟨u, fun _ => ⟨h1, h2⟩⟩
            · exact ⟨.bool false, fun h => absurd h hi⟩
          have hu : ∃ u : Nat → Value, ∀ i (hi : i < l.length), (∀ j (hj : j < 5), W.cell? (((⟨b, o, none⟩ : Addr).add (i * 5)).add j) = [Value.int .i64 l[i].kind, .string ⟨l[i].text.toArray⟩, .int .i64 l[i].num, .int .i64 l[i].pos, u i][j]?) ∧ KidR W l[i].kids (u i) := ⟨fun i => Classical.choose (hr' i), fun i hi => Classical.choose_spec (hr' i) hi⟩
          obtain ⟨u, hu⟩ := hu
          refine .row (u := u) (fun i hi => ?_) (fun i hi => (hu i hi).2) hl
          have hh := (hu i hi).1
          refine ⟨?_, ?_, ?_, ?_, ?_⟩
          · have h := hh 0 (by omega); rw [add_noneS, add_noneS] at h; simpa using h
          · have h := hh 1 (by omega); rw [add_noneS, add_noneS] at h; simpa using h
          · have h := hh 2 (by omega); rw [add_noneS, add_noneS] at h; simpa using h
          · have h := hh 3 (by omega); rw [add_noneS, add_noneS] at h; simpa using h
          · have h := hh 4 (by omega); rw [add_noneS, add_noneS] at h; simpa using h
      obtain ⟨l, hk⟩ := key
      injection e0 with e0 _
      injection e1 with e1 _
      injection e2 with e2 _
      injection e3 with e3 _
      subst e0 e1 e2 e3
      exact ⟨.mk z0 z1.data.toList z2 z3 l, x4, by simp [Syn.kind, Syn.text, Syn.num, Syn.pos], hk⟩
theorem open_syn {b0 : Nat} {v : Value} {d : DataW H} {p : List MemPlace} (hval : Value.okWide Tryz.prog W .any b0 24 v) (h : DataW.Trod enc Tryz.prog W 0 (fun _ => true) true 24 v d p) :
    ∃ (t : Syn) (q : Option Addr) (c : Nat), v = nodeV t q c ∧ KidR W t.kids (.slice q t.kids.length c) := by
  have hv : ∃ cs, v = .agg cs := by
    simp only [Value.okWide, Tryz.underlying24] at hval
    obtain ⟨cs, h1, h2, _⟩ := hval
    exact ⟨cs, h1⟩
  obtain ⟨cs, rfl⟩ := hv
  obtain ⟨fuel, hf⟩ := h
  obtain ⟨t, kv, hcs, hk⟩ := syn_of_trod fuel _ _ hf
  obtain ⟨q, c, e⟩ := hk.form
  subst e
  refine ⟨t, q, c, ?_, hk⟩
  have : cs = #[.int .i64 t.kind, .string ⟨t.text.toArray⟩, .int .i64 t.num, .int .i64 t.pos, .slice q t.kids.length c] := by
    apply Array.toList_inj.1
    simpa [Value.cells] using hcs
  rw [this]
end
end Go.Proofs.YtplbfmcgddnkeaaGreatDoor
end
