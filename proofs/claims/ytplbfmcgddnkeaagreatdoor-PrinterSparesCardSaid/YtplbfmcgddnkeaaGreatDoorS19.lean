/- Joined: RpBin, Sim. -/
import Derived.Test.YtplbfmcgddnkeaaGreatDoorS09
import Derived.Test.YtplbfmcgddnkeaaGreatDoorS15
import Derived.Test.YtplbfmcgddnkeaaGreatDoorS14
set_option linter.unusedVariables false
set_option linter.unusedSimpArgs false
section
set_option maxHeartbeats 1000000
set_option maxRecDepth 100000
namespace Go.Proofs.YtplbfmcgddnkeaaGreatDoor
open Go.RowKit
theorem rbinary_lit (S : Nat → Prop) (op : List UInt8) (num k1 n1 a1 k2 n2 a2 : Int) (t1 t2 : List UInt8) (l1 l2 : List Syn) (v1 v2 : Value) (w : World) (h1 : KidsAt S w l1 v1) (h2 : KidsAt S w l2 v2) (hp : ∀ k, w.heap.size ≤ k → S k) :
    Calls Tryz.prog 93 #[.string ⟨op.toArray⟩, .int .i64 num, .agg #[.int .i64 k1, .string ⟨t1.toArray⟩, .int .i64 n1, .int .i64 a1, v1], .agg #[.int .i64 k2, .string ⟨t2.toArray⟩, .int .i64 n2, .int .i64 a2, v2]] w
      fun r w' => ∃ ka kn kc, r = .returned (.agg #[.int .i64 11, .string ⟨op.toArray⟩, .int .i64 num, .int .i64 a1, .slice ka kn kc]) ∧ (KidsAt S w' [.mk k1 t1 n1 a1 l1, .mk k2 t2 n2 a2 l2] (.slice ka kn kc) ∧ Below w.heap.size w w') := by
  replace h1 := Lib.hid h1
  replace h2 := Lib.hid h2
  go_enter Tryz.func93, Tryz.ntmps93
  go_wp2_with fail
  refine bodyPost_ret (v := .agg #[.int .i64 11, .string ⟨op.toArray⟩, .int .i64 num, .int .i64 a1, .slice (some ⟨w.heap.size + 1 + 1 + 1, 0, none⟩) 2 2]) (by simp [results, Tryz.results93, go_sem]) rfl ⟨_, _, _, rfl, ?_, (((((Below.refl _ _).alloc (Nat.le_refl _) _).alloc (by simp) _).alloc (by simp; omega) _).alloc (by simp; omega) _)⟩
  have hO : ∀ A B C D : Obj, Keep S w ((((w.alloc A).alloc B).alloc C).alloc D) := fun A B C D => Keep.of_below (((((Below.refl _ _).alloc (Nat.le_refl _) _).alloc (by simp) _).alloc (by simp; omega) _).alloc (by simp; omega) _)
  have hblk := heap_alloc_new (((w.alloc (.cells #[.int .i64 k1, .string ⟨t1.toArray⟩, .int .i64 n1, .int .i64 a1, v1] 24)).alloc (.cells #[.int .i64 k2, .string ⟨t2.toArray⟩, .int .i64 n2, .int .i64 a2, v2] 24)).alloc
    (.cells #[.int .i64 11, .string ⟨op.toArray⟩, .int .i64 num, .int .i64 a1, .slice (some ⟨w.heap.size + 1 + 1 + 1, 0, none⟩) 2 2] 24)) (.cells #[.int .i64 k1, .string ⟨t1.toArray⟩, .int .i64 n1, .int .i64 a1, v1, .int .i64 k2, .string ⟨t2.toArray⟩, .int .i64 n2, .int .i64 a2, v2] 24)
  rw [World.size_alloc, World.size_alloc, World.size_alloc] at hblk
  exact KidsAt.some hblk (hp _ (by omega)) (RowAt.cons (cs := [.int .i64 k1, .string ⟨t1.toArray⟩, .int .i64 n1, .int .i64 a1, v1]) (.mk (h1.out.keep (hO _ _ _ _) fun _ h => h)) (RowAt.cons (cs := [.int .i64 k2, .string ⟨t2.toArray⟩, .int .i64 n2, .int .i64 a2, v2]) (.mk (h2.out.keep (hO _ _ _ _) fun _ h => h)) .nil)) (Nat.le_refl _)
end Go.Proofs.YtplbfmcgddnkeaaGreatDoor
end
section
namespace Go.Proofs.YtplbfmcgddnkeaaGreatDoor
def Rel {α : Type} (o : Out α) (m : Option (α × St)) (lv : Nat) (a : Int) : Prop :=
  match o with
  | .none => True
  | .err p e => e ≠ 0 ∧ ∃ t i, m = some (t, ⟨i, lv, (e : Int), p⟩)
  | .ok t j => m = some (t, ⟨j, lv, 0, a⟩)
def Quiet {α β : Type} (M : α × St → Option (β × St)) (lv lv' : Nat) : Prop := ∀ t i e p, e ≠ 0 → ∃ t' i', M (t, ⟨i, lv, e, p⟩) = some (t', ⟨i', lv', e, p⟩)
def QuietS {β : Type} (M : St → Option (β × St)) (lv lv' : Nat) : Prop := ∀ i e p, e ≠ 0 → ∃ t' i', M ⟨i, lv, e, p⟩ = some (t', ⟨i', lv', e, p⟩)
section
variable {res : List UInt8 → Bool} {T : List Tok} {lv lv' i : Nat} {a : Int}
theorem mTake_er {s : St} (h : s.er ≠ 0) : mTake T s = s := if_neg (fun k => h k.1)
theorem mFail_er {s : St} {e : Int} (h : s.er ≠ 0) : mFail T e s = s := if_neg h
theorem mNeed_er {s : St} {w : List UInt8} (h : s.er ≠ 0) : mNeed T w s = s := by unfold mNeed; split <;> simp [mTake_er, mFail_er, h]
theorem mName_er {s : St} (h : s.er ≠ 0) : (mName res T s).2 = s := by unfold mName; dsimp only; split <;> simp [mTake_er, mFail_er, h]
theorem mNumber_er {s : St} (h : s.er ≠ 0) : (mNumber T s).2 = s := by unfold mNumber; dsimp only; split <;> simp [mTake_er, mFail_er, h]
theorem mPush_er {s : St} (h : s.er ≠ 0) : mPush T s = mUp s := by unfold mPush; split <;> simp [mFail_er, mUp, h]
theorem mPop_up (s : St) : mPop (mUp s) = s := rfl
theorem mTake_ok (hl : (tk T (T.length - 1)).kind = 3) (hi : i < T.length) (hk : (tk T i).kind ≠ 3) : mTake T ⟨i, lv, 0, a⟩ = ⟨nx T i, lv, 0, a⟩ := by
  obtain ⟨h1, h2⟩ := nx_on hl hi hk
  rw [h1]; exact if_pos ⟨rfl, hk⟩
theorem Rel.bind {α β : Type} {o : Out α} {m : Option (α × St)} {k : α → Nat → Out β} {M : α × St → Option (β × St)} (h : Rel o m lv a)
    (hk : ∀ t j, o = .ok t j → Rel (k t j) (M (t, ⟨j, lv, 0, a⟩)) lv' a) (hq : Quiet M lv lv') : Rel (o.bind k) (m.bind M) lv' a := by
  cases o with
  | none => trivial
  | err p e =>
    obtain ⟨he, t, j, hm⟩ := h
    rw [hm]
    obtain ⟨t', j', h'⟩ := hq t j (e : Int) p (by omega)
    exact ⟨he, t', j', h'⟩
  | ok t j =>
    have h' : m = some (t, ⟨j, lv, 0, a⟩) := h
    rw [h']
    exact hk t j rfl
theorem Rel.fail {β : Type} {M : St → Option (β × St)} (e : Nat) (he : e ≠ 0) (hq : QuietS M lv lv') : Rel (fail T e i : Out β) (M (mFail T (e : Int) ⟨i, lv, 0, a⟩)) lv' a := by
  obtain ⟨t', j', h'⟩ := hq i (e : Int) (tk T i).pos (by omega)
  exact ⟨he, t', j', h'⟩
theorem Rel.need {β : Type} {w : List UInt8} {k : Tok → Nat → Out β} {M : St → Option (β × St)} (hl : (tk T (T.length - 1)).kind = 3) (hi : i < T.length)
    (hk : isW T [w] i = true → nx T i < T.length → Rel (k (tk T i) (nx T i)) (M ⟨nx T i, lv, 0, a⟩) lv' a) (hq : QuietS M lv lv') : Rel ((need T w i).bind k) (M (mNeed T w ⟨i, lv, 0, a⟩)) lv' a := by
  unfold Go.Proofs.YtplbfmcgddnkeaaGreatDoor.need mNeed
  cases hb : isW T [w] i
  · rw [if_neg Bool.false_ne_true, if_neg Bool.false_ne_true, mTake_er (by unfold mFail; simp)]
    exact Rel.fail (M := M) 4 (by decide) hq
  · rw [if_pos (rfl : true = true), if_pos (rfl : true = true), mTake_ok hl hi (isW_kind hb)]
    obtain ⟨h1, h2⟩ := nx_on hl hi (isW_kind hb)
    exact hk hb (by omega)
theorem Rel.name {β : Type} {k : Syn → Nat → Out β} {M : Syn × St → Option (β × St)} (hl : (tk T (T.length - 1)).kind = 3) (hi : i < T.length)
    (hk : nx T i < T.length → Rel (k (.mk 8 (tk T i).text 0 (tk T i).pos []) (nx T i)) (M (.mk 8 (tk T i).text 0 (tk T i).pos [], ⟨nx T i, lv, 0, a⟩)) lv' a) (hq : Quiet M lv lv') :
    Rel ((name res T i).bind k) (M (mName res T ⟨i, lv, 0, a⟩)) lv' a := by
  unfold Go.Proofs.YtplbfmcgddnkeaaGreatDoor.name mName
  dsimp only
  have hn : mNamed res T i = true ↔ ¬ ((tk T i).kind ≠ 0 ∨ res (tk T i).text = true) := by unfold mNamed; simp
  by_cases hb : mNamed res T i = true
  · rw [if_neg (hn.1 hb), if_pos hb, mTake_ok hl hi (by unfold mNamed at hb; simp at hb; omega)]
    obtain ⟨h1, h2⟩ := nx_on hl hi (i := i) (by unfold mNamed at hb; simp at hb; omega)
    exact hk (by omega)
  · rw [if_pos (by exact Decidable.not_not.1 fun h => hb (hn.2 h)), if_neg hb, mTake_er (by unfold mFail; simp)]
    obtain ⟨t', j', h'⟩ := hq (.mk 8 (tk T i).text 0 (tk T i).pos []) i 4 (tk T i).pos (by decide)
    exact ⟨by decide, t', j', h'⟩
theorem Rel.number {β : Type} {k : Syn → Nat → Out β} {M : Syn × St → Option (β × St)} (hT : TokOk T) (hi : i < T.length)
    (hk : nx T i < T.length → Rel (k (.mk 9 [] (dv 0 (tk T i).text : Nat) (tk T i).pos []) (nx T i)) (M (.mk 9 [] (dv 0 (tk T i).text : Nat) (tk T i).pos [], ⟨nx T i, lv, 0, a⟩)) lv' a) (hq : Quiet M lv lv') :
    Rel ((number T i).bind k) (M (mNumber T ⟨i, lv, 0, a⟩)) lv' a := by
  unfold Go.Proofs.YtplbfmcgddnkeaaGreatDoor.number mNumber
  dsimp only
  by_cases hb : (tk T i).kind = 1
  · rw [if_neg (by omega), if_pos hb, mTake_ok hT.last hi (by omega), hT.num i hi hb]
    obtain ⟨h1, h2⟩ := nx_on hT.last hi (i := i) (by omega)
    exact hk (by omega)
  · rw [if_pos hb, if_neg hb, mTake_er (by unfold mFail; simp)]
    obtain ⟨t', j', h'⟩ := hq (.mk 9 [] (mVal (tk T i).text) (tk T i).pos []) i 4 (tk T i).pos (by decide)
    exact ⟨by decide, t', j', h'⟩
theorem Rel.push {β : Type} {o : Out β} {M : St → Option (β × St)} (hk : lv + 1 ≤ 128 → Rel o (M ⟨i, lv + 1, 0, a⟩) lv' a) (hq : QuietS M (lv + 1) lv') :
    Rel (if 128 < lv + 1 then Go.Proofs.YtplbfmcgddnkeaaGreatDoor.fail T 12 i else o) (M (mPush T ⟨i, lv, 0, a⟩)) lv' a := by
  unfold mPush mUp
  dsimp only
  by_cases hb : 128 < lv + 1
  · rw [if_pos hb, if_pos hb]
    exact Rel.fail (M := M) 12 (by decide) hq
  · rw [if_neg hb, if_neg hb]
    exact hk (by omega)
def RelR (T : List Tok) (r : Rd) (m : MRd) : Prop := ∀ lv i a, i < T.length → Rel (r lv i) (m ⟨i, lv, 0, a⟩) lv a
def Idle (m : MRd) : Prop := ∀ s : St, s.er ≠ 0 → ∃ t, m s = some (t, s)
theorem mLeft_idle {r : MRd} {ops : List (List UInt8)} : Idle (mLeft T r ops) := fun s h => ⟨synNil, if_pos h⟩
theorem mSet_idle : Idle (mSet T) := fun s h => by
  unfold mSet
  split
  · exact ⟨_, by rw [mTake_er h]⟩
  · rw [mNeed_er h, mNeed_er h, if_neg (fun k => h k.1)]
    exact ⟨_, rfl⟩
theorem mArgs_idle {fo : MRd} (hf : Idle fo) (w : List UInt8) : ∀ s : St, s.er ≠ 0 → ∃ t, mArgs T fo w s = some (t, s) := fun s h => by
  unfold mArgs
  split
  · exact ⟨_, by rw [mNumber_er h, mNeed_er h, mNumber_er h]⟩
  · split
    · exact ⟨_, by rw [mNumber_er h]⟩
    · split
      · rw [mNumber_er h, mNeed_er h]
        obtain ⟨t, ht⟩ := hf s h
        exact ⟨_, by rw [ht]; rfl⟩
      · split
        · obtain ⟨t, ht⟩ := mSet_idle (T := T) s h
          obtain ⟨t2, ht2⟩ := hf s h
          exact ⟨_, by rw [ht, Option.bind_some, mNeed_er h, ht2]; rfl⟩
        · obtain ⟨t2, ht2⟩ := hf s h
          exact ⟨_, by rw [ht2]; rfl⟩
theorem mrd_idle (f : Nat) : ∀ nt, Idle (mrd res T (f + 2) nt) := by
  have h1 : ∀ nt, nt ≠ .atom → nt ≠ .formula → ∀ f, Idle (mrd res T (f + 1) nt) := by
    intro nt ha hf f
    cases nt with
    | atom => exact absurd rfl ha
    | formula => exact absurd rfl hf
    | neg => exact fun s h => ⟨synNil, if_pos h⟩
    | unit => exact fun s h => ⟨synNil, if_pos h⟩
    | factor => exact fun s h => ⟨synNil, if_pos h⟩
    | lit => exact fun s h => ⟨synNil, if_pos h⟩
    | _ => exact mLeft_idle
  intro nt
  by_cases ha : nt = .atom
  · subst ha
    intro s h
    unfold mrd
    have hu : (mUp s).er ≠ 0 := h
    split
    · exact ⟨(mName res T s).1, congrArg some (Prod.ext rfl (mName_er h))⟩
    split
    · exact ⟨_, by rw [mTake_er h, mNeed_er h, mPush_er h, mNumber_er hu, mPop_up, mNeed_er h]⟩
    split
    · exact ⟨_, by rw [mTake_er h]⟩
    split
    · obtain ⟨t, ht⟩ := h1 .cond (by decide) (by decide) f (mUp s) hu
      exact ⟨_, by rw [mTake_er h, mNeed_er h, mPush_er h, ht, Option.bind_some, mPop_up, mNeed_er h]⟩
    split
    · obtain ⟨t, ht⟩ := h1 .scheme (by decide) (by decide) f (mUp s) hu
      exact ⟨_, by rw [mTake_er h, mPush_er h, ht, Option.bind_some, mPop_up, mNeed_er h]⟩
    · exact ⟨_, by rw [mFail_er h]⟩
  by_cases hf : nt = .formula
  · subst hf
    intro s h
    unfold mrd
    obtain ⟨t, ht⟩ := h1 .disj (by decide) (by decide) f s h
    exact ⟨t, by rw [ht, Option.bind_some, if_neg (fun k => h k.1)]⟩
  · exact h1 nt ha hf _
theorem loop_er {r : MRd} {ops : List (List UInt8)} {g : Nat} {x : Syn} {s : St} (h : s.er ≠ 0) : mLeftLoop T r ops (g + 1) x s = some (x, s) := if_neg (fun k => h k.1)
theorem leftLoop_rel {r : Rd} {m : MRd} {ops : List (List UInt8)} (hl : (tk T (T.length - 1)).kind = 3) (ho : OnR T r) (hr : RelR T r m) (g : Nat) : ∀ x i, i < T.length → Rel (leftLoop T r ops lv g x i) (mLeftLoop T m ops (g + 1) x ⟨i, lv, 0, a⟩) lv a := by
  induction g with
  | zero => intro x i _; trivial
  | succ g ih =>
    intro x i hi
    rw [leftLoop, mLeftLoop]
    cases hb : isW T ops i
    · rw [if_neg Bool.false_ne_true, if_neg (by rintro ⟨_, h⟩; cases h)]
      exact rfl
    · rw [if_pos (rfl : true = true), if_pos ⟨rfl, rfl⟩]
      obtain ⟨h1, h2⟩ := nx_on hl hi (isW_kind hb)
      rw [mTake_ok hl hi (isW_kind hb)]
      refine (hr lv (nx T i) a (by omega)).bind (fun y j hy => ?_) fun t i' e p he => ⟨_, _, loop_er he⟩
      exact ih _ _ (ho _ _ (by omega) _ _ hy).2
theorem left_rel {r : Rd} {m : MRd} {ops : List (List UInt8)} (hl : (tk T (T.length - 1)).kind = 3) (ho : OnR T r) (hr : RelR T r m) : RelR T (left T r ops) (mLeft T m ops) := fun lv i a hi => by
  show Rel _ (if _ then _ else _) _ _
  rw [if_neg (fun h : (0 : Int) ≠ 0 => h rfl)]
  refine (hr lv i a hi).bind (fun y j hy => ?_) fun t i' e p he => ⟨_, _, loop_er he⟩
  exact leftLoop_rel hl ho hr _ _ _ (ho _ _ hi _ _ hy).2
theorem setLoop_er {g : Nat} {x : List Syn} {s : St} (h : s.er ≠ 0) : mSetLoop T (g + 1) x s = some (x, s) := if_neg (fun k => h k.1)
theorem setLoop_rel (hT : TokOk T) (g : Nat) : ∀ xs i, i < T.length → Rel (setLoop T g xs i) (mSetLoop T (g + 1) xs ⟨i, lv, 0, a⟩) lv a := by
  induction g with
  | zero => intro x i _; trivial
  | succ g ih =>
    intro xs i hi
    rw [setLoop, mSetLoop]
    cases hb : isW T [[44]] i
    · rw [if_neg Bool.false_ne_true, if_neg (by rintro ⟨_, h⟩; cases h)]
      exact rfl
    · rw [if_pos (rfl : true = true), if_pos ⟨rfl, rfl⟩]
      obtain ⟨h1, h2⟩ := nx_on hT.last hi (isW_kind hb)
      rw [mTake_ok hT.last hi (isW_kind hb)]
      exact Rel.number (M := fun p => mSetLoop T (g + 1) (xs ++ [p.1]) p.2) hT (by omega) (fun h => ih _ _ h) fun t i' e p he => ⟨_, _, setLoop_er he⟩
theorem isW_one {w : List UInt8} (h : isW T [w] i = true) : (tk T i).text = w := by
  unfold isW at h
  simp only [Bool.and_eq_true, List.contains_iff_mem, List.mem_singleton] at h
  exact h.2
theorem set_rel (hT : TokOk T) : RelR T (fun _ => setR T) (mSet T) := fun lv i a hi => by
  show Rel (setR T i) _ _ _
  unfold setR mSet
  cases hb : isW T [[101, 118, 101, 114, 121, 111, 110, 101]] i
  · rw [if_neg Bool.false_ne_true, if_neg Bool.false_ne_true]
    refine Rel.need (M := fun s => if s.er = 0 ∧ isW T [[125]] s.i = false then (mSetLoop T (T.length + 2) [(mNumber T s).1] (mNumber T s).2).bind fun p => some (Syn.mk 14 [] 0 (tk T i).pos p.1, mNeed T [125] p.2)
      else some (Syn.mk 14 [] 0 (tk T i).pos [], mNeed T [125] s)) hT.last hi (fun hw h => ?_) (fun i' e p he => ?_)
    · dsimp only
      cases hc : isW T [[125]] (nx T i)
      · rw [if_neg Bool.false_ne_true, if_pos ⟨rfl, rfl⟩]
        refine Rel.number (M := fun p => (mSetLoop T (T.length + 2) [p.1] p.2).bind fun p => some (Syn.mk 14 [] 0 (tk T i).pos p.1, mNeed T [125] p.2)) hT h (fun h => ?_) (fun t i' e p he => ?_)
        · refine (setLoop_rel hT _ _ _ h).bind (fun xs j hj => ?_) fun t i' e p he => ⟨_, _, by (try dsimp only); rw [mNeed_er (by exact he)]⟩
          exact Rel.need (M := fun s => some (Syn.mk 14 [] 0 (tk T i).pos xs, s)) hT.last (setLoop_on hT.last _ _ _ h _ _ hj).2 (fun _ _ => rfl) fun i' e p he => ⟨_, _, rfl⟩
        · exact ⟨_, _, by (try dsimp only); rw [setLoop_er (by exact he), Option.bind_some, mNeed_er (by exact he)]⟩
      · rw [if_pos (rfl : true = true), if_neg (by simp)]
        have : mNeed T [125] ⟨nx T i, lv, 0, a⟩ = ⟨nx T (nx T i), lv, 0, a⟩ := by unfold mNeed; rw [if_pos hc]; exact mTake_ok hT.last h (isW_kind hc)
        rw [this]
        exact rfl
    · exact ⟨_, _, by (try dsimp only); rw [if_neg (fun k => he k.1), mNeed_er he]⟩
  · rw [if_pos (rfl : true = true), if_pos (rfl : true = true), mTake_ok hT.last hi (isW_kind hb), isW_one hb]
    exact rfl
theorem within_rel {r : Rd} {m : MRd} (hr : RelR T r m) (hm : Idle m) (hi : i < T.length) : Rel (within T r lv i) (m (mPush T ⟨i, lv, 0, a⟩)) (lv + 1) a :=
  Rel.push (M := m) (fun _ => hr _ _ _ hi) fun i' e p he => (hm ⟨i', lv + 1, e, p⟩ he).imp fun t h => ⟨i', h⟩
theorem within_lt {r : Rd} (hr : OnR T r) (hi : i < T.length) {t : Syn} {j : Nat} (h : within T r lv i = .ok t j) : j < T.length := (within_on hr hi _ _ h).2
theorem Rel.close {m : Option (Syn × St)} {o : Out Syn} {t : Syn → Syn} (hl : (tk T (T.length - 1)).kind = 3) (h : Rel o m (lv + 1) a) (ho : ∀ x j, o = .ok x j → j < T.length) :
    Rel (o.bind fun x j => (Go.Proofs.YtplbfmcgddnkeaaGreatDoor.need T [41] j).bind fun _ j => .ok (t x) j) (m.bind fun p => some (t p.1, mNeed T [41] (mPop p.2))) lv a :=
  h.bind (fun x j hx => Rel.need (M := fun s => some (t x, s)) hl (ho x j hx) (fun _ _ => rfl) fun i' e p he => ⟨_, _, rfl⟩) fun t i' e p he => ⟨_, _, by (try dsimp only); rw [mNeed_er (by exact he)]; rfl⟩
theorem parens_rel {r : Rd} {m : MRd} (hl : (tk T (T.length - 1)).kind = 3) (ho : OnR T r) (hr : RelR T r m) (hm : Idle m) (hi : i < T.length) (hw : isW T [[40]] i = true) :
    Rel (parens T r lv i) ((m (mPush T (mTake T ⟨i, lv, 0, a⟩))).bind fun p => some (p.1, mNeed T [41] (mPop p.2))) lv a := by
  obtain ⟨h1, h2⟩ := nx_on hl hi (isW_kind hw)
  rw [mTake_ok hl hi (isW_kind hw)]
  unfold parens Go.Proofs.YtplbfmcgddnkeaaGreatDoor.need
  rw [if_pos hw]
  exact (within_rel hr hm (by omega)).close (t := id) hl fun x j h => within_lt ho (by omega) h
theorem parens_rel' {r : Rd} {m : MRd} (hl : (tk T (T.length - 1)).kind = 3) (ho : OnR T r) (hr : RelR T r m) (hm : Idle m) (hi : i < T.length) (t : Syn → Syn) :
    Rel ((parens T r lv i).bind fun x j => .ok (t x) j) ((m (mPush T (mNeed T [40] ⟨i, lv, 0, a⟩))).bind fun p => some (t p.1, mNeed T [41] (mPop p.2))) lv a := by
  unfold parens
  rw [Out.bind_assoc]
  refine Rel.need (M := fun s => (m (mPush T s)).bind fun p => some (t p.1, mNeed T [41] (mPop p.2))) hl hi (fun _ h => ?_) fun i' e p he => ?_
  · rw [Out.bind_assoc]
    simp only [Out.bind_assoc]
    exact (within_rel hr hm h).close hl fun x j h' => within_lt ho h h'
  · obtain ⟨u, hu⟩ := hm ⟨i', lv + 1, e, p⟩ he
    exact ⟨_, _, by (try dsimp only); rw [mPush_er (by exact he), mUp, hu, Option.bind_some, mNeed_er (by exact he)]; rfl⟩
theorem args_rel {rs : List Rd} {mA : St → Option (List Syn × St)} (hl : (tk T (T.length - 1)).kind = 3) (hr : ∀ i, i < T.length → Rel (argsGo T rs (lv + 1) i) (mA ⟨i, lv + 1, 0, a⟩) (lv + 1) a)
    (ho : ∀ r ∈ rs, OnR T r) (hm : ∀ s : St, s.er ≠ 0 → ∃ t, mA s = some (t, s)) (hi : i < T.length) (w : Tok) :
    Rel (arguments T w rs lv i) ((mA (mPush T (mNeed T [40] ⟨i, lv, 0, a⟩))).bind fun p => some (Syn.mk 10 w.text 0 w.pos p.1, mNeed T [41] (mPop p.2))) lv a := by
  unfold arguments
  refine Rel.need (M := fun s => (mA (mPush T s)).bind fun p => some (Syn.mk 10 w.text 0 w.pos p.1, mNeed T [41] (mPop p.2))) hl hi (fun _ h => ?_) fun i' e p he => ?_
  · refine Rel.push (M := fun s => (mA s).bind fun p => some (Syn.mk 10 w.text 0 w.pos p.1, mNeed T [41] (mPop p.2))) (fun _ => ?_) fun i' e p he => ?_
    · refine (hr _ h).bind (fun xs j hx => ?_) fun t i' e p he => ⟨_, _, by (try dsimp only); rw [mNeed_er (by exact he)]; rfl⟩
      exact Rel.need (M := fun s => some (Syn.mk 10 w.text 0 w.pos xs, s)) hl (argsGo_on hl ho h _ _ hx).2 (fun _ _ => rfl) fun i' e p he => ⟨_, _, rfl⟩
    · obtain ⟨u, hu⟩ := hm ⟨i', lv + 1, e, p⟩ he
      exact ⟨_, _, by (try dsimp only); rw [hu, Option.bind_some, mNeed_er (by exact he)]; rfl⟩
  · obtain ⟨u, hu⟩ := hm ⟨i', lv + 1, e, p⟩ he
    exact ⟨_, _, by (try dsimp only); rw [mPush_er (by exact he), mUp, hu, Option.bind_some, mNeed_er (by exact he)]; rfl⟩
theorem argsGo_one (r : Rd) : argsGo T [r] lv i = (r lv i).bind fun x j => .ok [x] j := by simp [argsGo, argsGo.argsMore, Out.bind]
theorem argsGo_two (r q : Rd) : argsGo T [r, q] lv i = (r lv i).bind fun x j => (need T [44] j).bind fun _ j => (q lv j).bind fun y j => .ok [x, y] j := by
  simp [argsGo, argsGo.argsMore, Out.bind_assoc]
  rfl
theorem one_rel {r : Rd} {m : MRd} (hr : RelR T r m) (hi : i < T.length) : Rel (argsGo T [r] lv i) ((m ⟨i, lv, 0, a⟩).bind fun p => some ([p.1], p.2)) lv a := by
  rw [argsGo_one]
  exact (hr _ _ _ hi).bind (fun x j _ => rfl) fun t i' e p he => ⟨_, _, rfl⟩
theorem two_rel {r q : Rd} {m n : MRd} (hl : (tk T (T.length - 1)).kind = 3) (hr : RelR T r m) (ho : OnR T r) (hq : RelR T q n) (hn : Idle n) (hi : i < T.length) :
    Rel (argsGo T [r, q] lv i) ((m ⟨i, lv, 0, a⟩).bind fun p => (n (mNeed T [44] p.2)).bind fun q => some ([p.1, q.1], q.2)) lv a := by
  rw [argsGo_two]
  have hz : ∀ x : Syn, QuietS (fun s => (n s).bind fun q => some ([x, q.1], q.2)) lv lv := fun x i' e p he => by
    obtain ⟨u, hu⟩ := hn ⟨i', lv, e, p⟩ he
    exact ⟨_, _, by (try dsimp only); rw [hu]; rfl⟩
  refine (hr _ _ _ hi).bind (fun x j hx => ?_) fun t i' e p he => ?_
  · refine Rel.need (M := fun s => (n s).bind fun q => some ([x, q.1], q.2)) hl (ho _ _ hi _ _ hx).2 (fun _ h => ?_) (hz x)
    exact (hq _ _ _ h).bind (fun y j _ => rfl) fun t i' e p he => ⟨_, _, rfl⟩
  · dsimp only
    rw [mNeed_er (by exact he)]
    exact hz t i' e p he
theorem num_rel (hT : TokOk T) : RelR T (fun _ => number T) (fun s => some (mNumber T s)) := fun lv i a hi => by
  have := Rel.number (T := T) (lv := lv) (lv' := lv) (a := a) (k := fun x j => .ok x j) (M := fun p => some p) hT hi (fun _ => rfl) fun t i' e p he => ⟨_, _, rfl⟩
  rwa [← Out.bind_ok] at this
theorem num_idle : Idle (fun s => some (mNumber T s)) := fun s h => ⟨(mNumber T s).1, by show some ((mNumber T s).1, (mNumber T s).2) = _; rw [mNumber_er h]⟩
theorem name_rel (hl : (tk T (T.length - 1)).kind = 3) : RelR T (fun _ => name res T) (fun s => some (mName res T s)) := fun lv i a hi => by
  have := Rel.name (res := res) (T := T) (lv := lv) (lv' := lv) (a := a) (k := fun x j => .ok x j) (M := fun p => some p) hl hi (fun _ => rfl) fun t i' e p he => ⟨_, _, rfl⟩
  rwa [← Out.bind_ok] at this
theorem isW_as {w : List UInt8} (h : isW T [w] i = true) (ws : List (List UInt8)) : isW T ws i = ws.contains w := by
  have ht := isW_one h
  unfold isW at h ⊢
  simp only [Bool.and_eq_true] at h
  rw [h.1, ht, Bool.true_and]
theorem isW_cons (w : List UInt8) (ws : List (List UInt8)) : isW T (w :: ws) i = (isW T [w] i || isW T ws i) := by
  unfold isW
  cases (decide ((tk T i).kind = 2) || decide ((tk T i).kind = 0)) <;> simp [List.contains_cons]
theorem isW_nil : isW T [] i = false := by unfold isW; simp
theorem named_as {w : List UInt8} (h : isW T [w] i = true) (hr : res w = true) : mNamed res T i = false := by unfold mNamed; rw [isW_one h, hr]; simp
theorem named_not {w : List UInt8} (h : mNamed res T i = true) (hr : res w = true) : isW T [w] i = false := by
  cases hb : isW T [w] i
  · rfl
  · rw [named_as hb hr] at h; cases h
theorem name_not (h : mNamed res T i = false) : name res T i = Go.Proofs.YtplbfmcgddnkeaaGreatDoor.fail T 4 i := by
  unfold Go.Proofs.YtplbfmcgddnkeaaGreatDoor.name
  rw [if_pos]
  unfold mNamed at h
  by_cases hk : (tk T i).kind = 0
  · right; simp [hk] at h; exact h
  · left; exact hk
def Words (res : List UInt8 → Bool) : Prop := ∀ w ∈ [[105, 110], [111, 117, 116], [104, 101, 97, 114, 115], [99, 111, 117, 110, 116], [99, 114, 97, 115, 104], [115, 101, 110, 100], [114, 101, 99, 101, 105, 118, 101], [111, 109, 105, 116], [112, 97, 114, 116, 105, 116, 105, 111, 110], [115, 110, 97, 112, 115, 104, 111, 116], [103, 114, 97, 112, 104, 115]], res w = true
theorem par_named (hT : TokOk T) (h : mNamed res T i = true) : isW T [[40]] i = false := by
  cases hb : isW T [[40]] i
  · rfl
  · have h1 := isW_one hb
    unfold mNamed at h
    simp at h
    exact absurd h1 (hT.par i h.1)
theorem fail_rel (t : Syn) : Rel (Go.Proofs.YtplbfmcgddnkeaaGreatDoor.fail T 4 i : Out Syn) (some (t, mFail T 4 ⟨i, lv, 0, a⟩)) lv a :=
  Rel.fail (M := fun s => some (t, s)) 4 (by decide) fun i' e p he => ⟨_, _, rfl⟩
theorem unit_rel (hT : TokOk T) (hW : Words res) (f : Nat) (ih : ∀ nt, RelR T (rd res T f nt) (mrd res T (f + 2) nt)) : RelR T (rd res T (f + 1) .unit) (mrd res T (f + 3) .unit) := fun lv i a hi => by
  have hl := hT.last
  have hon := fun nt => rd_on (res := res) hl f nt
  have hid := fun nt => mrd_idle (res := res) (T := T) f nt
  rw [rd, mrd]
  dsimp only
  rw [if_neg (fun h : (0 : Int) ≠ 0 => h rfl)]
  by_cases hk : (tk T i).kind = 1
  · rw [if_pos hk, if_pos hk]
    exact num_rel hT lv i a hi
  rw [if_neg hk, if_neg hk]
  cases hn : mNamed res T i
  · rw [if_neg Bool.false_ne_true, isW_cons [105, 110], isW_cons [111, 117, 116] [], isW_nil, Bool.or_false]
    have two : ∀ ws, isW T [[105, 110]] i = true ∨ isW T [[111, 117, 116]] i = true → ws.contains [105, 110] = false → ws.contains [111, 117, 116] = false → isW T ws i = false := by
      rintro ws (h | h) h1 h2
      · rw [isW_as h]; exact h1
      · rw [isW_as h]; exact h2
    by_cases h1 : isW T [[105, 110]] i = true ∨ isW T [[111, 117, 116]] i = true
    · rw [if_pos (by simpa using h1), if_neg (by rw [two _ h1 (by decide) (by decide)]; decide), if_pos h1]
      have hk3 : (tk T i).kind ≠ 3 := by rcases h1 with h1 | h1 <;> exact isW_kind h1
      obtain ⟨q1, q2⟩ := nx_on hl hi hk3
      rw [mTake_ok hl hi hk3]
      have := args_rel (lv := lv) (a := a) (i := nx T i) (rs := [rd res T f .sum]) (mA := fun s => (mrd res T (f + 2) .sum s).bind fun p => some ([p.1], p.2)) hl (fun i hi => one_rel (ih .sum) hi) (fun r hr => by rw [List.mem_singleton.1 hr]; exact hon _)
        (fun s h => by obtain ⟨t, ht⟩ := hid .sum s h; exact ⟨_, by rw [ht]; rfl⟩) (by omega) (tk T i)
      rw [Option.bind_assoc] at this
      exact this
    rw [if_neg (by simpa using h1), if_neg h1]
    clear two
    cases h2 : isW T [[104, 101, 97, 114, 115]] i
    · rw [if_neg Bool.false_ne_true]
      cases h3 : isW T [[99, 111, 117, 110, 116]] i
      · rw [if_neg Bool.false_ne_true]
        cases h4 : isW T [[40]] i
        · rw [if_neg Bool.false_ne_true, if_neg Bool.false_ne_true, if_neg Bool.false_ne_true, if_neg Bool.false_ne_true, name_not hn]
          exact fail_rel _
        · rw [if_pos (rfl : true = true), if_pos (rfl : true = true)]
          exact parens_rel hl (hon _) (ih _) (hid _) hi h4
      · rw [if_pos (rfl : true = true), if_neg (by rw [isW_as h3]; decide), if_neg Bool.false_ne_true, if_pos (rfl : true = true)]
        have hk3 := isW_kind h3
        obtain ⟨q1, q2⟩ := nx_on hl hi hk3
        rw [mTake_ok hl hi hk3]
        refine Rel.name (M := fun n => (mrd res T (f + 2) .cond (mPush T (mNeed T [40] n.2))).bind fun p => some (Syn.mk 13 (tk T i).text 0 (tk T i).pos [n.1, p.1], mNeed T [41] (mPop p.2))) hl (by omega) (fun h => ?_) fun t i' e p he => ?_
        · exact parens_rel' hl (hon _) (ih _) (hid _) h fun x => .mk 13 (tk T i).text 0 (tk T i).pos [_, x]
        · obtain ⟨u, hu⟩ := hid .cond ⟨i', lv + 1, e, p⟩ he
          exact ⟨_, _, by (try dsimp only); rw [mNeed_er (by exact he), mPush_er (by exact he), mUp, hu, Option.bind_some, mNeed_er (by exact he)]; rfl⟩
    · rw [if_pos (rfl : true = true), if_neg (by rw [isW_as h2]; decide), if_pos (rfl : true = true)]
      have hk3 := isW_kind h2
      obtain ⟨q1, q2⟩ := nx_on hl hi hk3
      rw [mTake_ok hl hi hk3]
      have := args_rel (lv := lv) (a := a) (i := nx T i) (rs := [rd res T f .sum, rd res T f .sum]) (mA := fun s => (mrd res T (f + 2) .sum s).bind fun p => (mrd res T (f + 2) .sum (mNeed T [44] p.2)).bind fun q => some ([p.1, q.1], q.2)) hl
        (fun i hi => two_rel hl (ih .sum) (hon _) (ih .sum) (hid _) hi) (fun r hr => by simp only [List.mem_cons, List.not_mem_nil, or_false, or_self] at hr; rw [hr]; exact hon _)
        (fun s h => by obtain ⟨t, ht⟩ := hid .sum s h; exact ⟨_, by rw [ht, Option.bind_some, mNeed_er (by exact h), ht]; rfl⟩) (by omega) (tk T i)
      simp only [Option.bind_assoc] at this
      exact this
  · have hw := fun w hw => named_not hn (hW w hw)
    rw [if_pos (rfl : true = true), isW_cons [105, 110], isW_cons [111, 117, 116] [], isW_nil, hw _ (by decide), hw _ (by decide), hw _ (by decide), hw _ (by decide), par_named hT hn]
    exact name_rel hl lv i a hi
theorem atom_rel (hT : TokOk T) (hW : Words res) (f : Nat) (ih : ∀ nt, RelR T (rd res T f nt) (mrd res T (f + 2) nt)) : RelR T (rd res T (f + 1) .atom) (mrd res T (f + 3) .atom) := fun lv i a hi => by
  have hl := hT.last
  have hon := fun nt => rd_on (res := res) hl f nt
  have hid := fun nt => mrd_idle (res := res) (T := T) f nt
  rw [rd, mrd]
  dsimp only
  cases hn : mNamed res T i
  · rw [if_neg Bool.false_ne_true]
    cases h1 : isW T [[99, 114, 97, 115, 104], [115, 101, 110, 100], [114, 101, 99, 101, 105, 118, 101], [111, 109, 105, 116], [112, 97, 114, 116, 105, 116, 105, 111, 110]] i
    · rw [if_neg Bool.false_ne_true, if_neg Bool.false_ne_true]
      cases h2 : isW T [[115, 110, 97, 112, 115, 104, 111, 116]] i
      · rw [if_neg Bool.false_ne_true, if_neg Bool.false_ne_true]
        cases h3 : isW T [[103, 114, 97, 112, 104, 115]] i
        · rw [if_neg Bool.false_ne_true, if_neg Bool.false_ne_true]
          cases h4 : isW T [[40]] i
          · rw [if_neg Bool.false_ne_true, if_neg Bool.false_ne_true, name_not hn]
            exact fail_rel _
          · rw [if_pos (rfl : true = true), if_pos (rfl : true = true)]
            exact parens_rel hl (hon _) (ih _) (hid _) hi h4
        · rw [if_pos (rfl : true = true), if_pos (rfl : true = true)]
          have hk3 := isW_kind h3
          obtain ⟨q1, q2⟩ := nx_on hl hi hk3
          rw [mTake_ok hl hi hk3]
          have := args_rel (lv := lv) (a := a) (i := nx T i) (rs := [rd res T f .cond]) (mA := fun s => (mrd res T (f + 2) .cond s).bind fun p => some ([p.1], p.2)) hl (fun i hi => one_rel (ih .cond) hi) (fun r hr => by rw [List.mem_singleton.1 hr]; exact hon _)
            (fun s h => by obtain ⟨t, ht⟩ := hid .cond s h; exact ⟨_, by rw [ht]; rfl⟩) (by omega) (tk T i)
          rw [Option.bind_assoc] at this
          exact this
      · rw [if_pos (rfl : true = true), if_pos (rfl : true = true), mTake_ok hl hi (isW_kind h2)]
        exact rfl
    · rw [if_pos (rfl : true = true), if_pos (rfl : true = true)]
      have hk3 := isW_kind h1
      obtain ⟨q1, q2⟩ := nx_on hl hi hk3
      rw [mTake_ok hl hi hk3]
      exact args_rel (lv := lv) (a := a) (i := nx T i) (rs := [fun _ => number T]) (mA := fun s => some ([(mNumber T s).1], (mNumber T s).2)) hl (fun i hi => one_rel (num_rel hT) hi) (fun r hr => by rw [List.mem_singleton.1 hr]; exact fun _ _ h => number_on hl h)
        (fun s h => ⟨_, by rw [mNumber_er h]⟩) (by omega) (tk T i)
  · have hw := fun w hw => named_not hn (hW w hw)
    rw [if_pos (rfl : true = true), isW_cons [99, 114, 97, 115, 104], isW_cons [115, 101, 110, 100], isW_cons [114, 101, 99, 101, 105, 118, 101], isW_cons [111, 109, 105, 116], isW_cons [112, 97, 114, 116, 105, 116, 105, 111, 110] [], isW_nil,
      hw _ (by decide), hw _ (by decide), hw _ (by decide), hw _ (by decide), hw _ (by decide), hw _ (by decide), hw _ (by decide), par_named hT hn]
    exact name_rel hl lv i a hi
end
end Go.Proofs.YtplbfmcgddnkeaaGreatDoor
end
