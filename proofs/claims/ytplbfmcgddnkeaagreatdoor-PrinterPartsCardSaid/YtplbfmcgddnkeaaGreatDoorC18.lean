/- Walks of functions, and plain facts. -/
import Derived.Test.YtplbfmcgddnkeaaGreatDoorC17
import Derived.Test.YtplbfmcgddnkeaaGreatDoorC15
import Derived.Test.YtplbfmcgddnkeaaGreatDoorC16
set_option linter.unusedVariables false
set_option linter.unusedSimpArgs false
set_option maxHeartbeats 20000000
set_option maxRecDepth 100000
namespace Go.Proofs.YtplbfmcgddnkeaaGreatDoor
section
section
variable {res : List UInt8 → Bool} {T : List Tok} {lv lv' i : Nat} {a : Int}
theorem Qe6 {r : Rd} {m : MRd} (hl : (tk T (T.length - 1)).kind = 3) (hr : RelR T r m) (hm : Idle m) (hi : i < T.length) (hw : isW T [kNot] i = true) :
  Rel (notR T r lv i) ((m (Qo T (Q8 T ⟨i, lv, 0, a⟩))).bind fun p => some (Syn.mk 12 [] 0 (tk T i).pos [p.1], mPop p.2)) lv a := by
 obtain ⟨h1, h2⟩ := Q04 hl hi (Qc hw)
 rw [Q1a hl hi (Qc hw)]
 exact (Q6t hr hm (by omega)).bind (fun x j _ => rfl) fun t i' e p he => ⟨_, _, rfl⟩
theorem Qjd (hT : TokOk T) (f : Nat) (ih : ∀ nt, RelR T (rd res T f nt) (mrd res T (f + 2) nt)) : RelR T (rd res T (f + 1) .neg) (mrd res T (f + 3) .neg) := fun lv i a hi => by
 have hl := hT.last
 have hon := fun nt => Q4a (res := res) hl f nt
 have hid := fun nt => Q62 (res := res) (T := T) f nt
 rw [rd, mrd]
 dsimp only
 rw [if_neg (fun h : (0 : Int) ≠ 0 => h rfl)]
 cases h0 : isW T [kNot] i
 ·rw [if_neg Bool.false_ne_true, if_neg Bool.false_ne_true]
  rw [Q3a [97, 108, 108]]
  by_cases h1 : isW T [[97, 108, 108]] i = true ∨ isW T [[115, 111, 109, 101]] i = true
  ·rw [if_pos (by rw [Bool.or_eq_true]; exact h1), if_pos h1]
   have hk3 : (tk T i).kind ≠ 3 := by rcases h1 with h1 | h1 <;> exact Qc h1
   obtain ⟨q1, q2⟩ := Q04 hl hi hk3
   rw [Q1a hl hi hk3]
   refine Rel.name (M := fun n => (mrd res T (f + 2) .cond (Qo T (Q7 T [58] n.2))).bind fun p => some (Syn.mk 13 (tk T i).text 0 (tk T i).pos [n.1, p.1], mPop p.2)) hl (by omega) (fun h => ?_) fun t i' e p he => ?_
   ·refine Rel.need (M := fun s => (mrd res T (f + 2) .cond (Qo T s)).bind fun p => some (Syn.mk 13 (tk T i).text 0 (tk T i).pos [_, p.1], mPop p.2)) hl h (fun _ h => ?_) fun i' e p he => ?_
    ·exact (Q6t (ih _) (hid _) h).bind (fun x j _ => rfl) fun t i' e p he => ⟨_, _, rfl⟩
    ·obtain ⟨u, hu⟩ := hid .cond ⟨i', lv + 1, e, p⟩ he
     exact ⟨_, _, by (try dsimp only); rw [Q3p (by exact he), mUp, hu]; rfl⟩
   ·obtain ⟨u, hu⟩ := hid .cond ⟨i', lv + 1, e, p⟩ he
    exact ⟨_, _, by (try dsimp only); rw [Q0w (by exact he), Q3p (by exact he), mUp, hu]; rfl⟩
  ·rw [if_neg (by rw [Bool.or_eq_true]; exact h1), if_neg h1]
   refine (ih .sum lv i a hi).bind (fun x j hx => ?_) fun t i' e p he => ⟨_, _, if_neg (fun k => he k.1)⟩
   have hj := (hon .sum lv i hi _ _ hx).2
   dsimp only
   cases h2 : isW T [[61], [33, 61], [60], [60, 61]] j
   ·rw [if_neg Bool.false_ne_true, if_neg (by simp)]
    exact rfl
   ·rw [if_pos (rfl : true = true), if_pos ⟨rfl, rfl⟩]
    obtain ⟨q1, q2⟩ := Q04 hl hj (Qc h2)
    rw [Q1a hl hj (Qc h2)]
    exact (ih .sum lv _ a (by omega)).bind (fun y l _ => rfl) fun t i' e p he => ⟨_, _, rfl⟩
 ·rw [if_pos (rfl : true = true), if_pos (rfl : true = true)]
  exact Qe6 hl (ih _) (hid _) hi h0
theorem Qsi (hT : TokOk T) (f : Nat) (ih : ∀ nt, RelR T (rd res T f nt) (mrd res T (f + 2) nt)) : RelR T (rd res T (f + 1) .factor) (mrd res T (f + 3) .factor) := fun lv i a hi => by
 have hl := hT.last
 have hon := fun nt => Q4a (res := res) hl f nt
 have hid := fun nt => Q62 (res := res) (T := T) f nt
 rw [rd, mrd]
 dsimp only
 rw [if_neg (fun h : (0 : Int) ≠ 0 => h rfl)]
 refine (ih .atom lv i a hi).bind (fun x j hx => ?_) fun t i' e p he => ⟨_, _, if_neg (fun k => he k.1)⟩
 have hj := (hon .atom lv i hi _ _ hx).2
 dsimp only
 cases h2 : isW T [[116, 104, 101, 110]] j
 ·rw [if_neg Bool.false_ne_true, if_neg (by simp)]
  exact rfl
 ·rw [if_pos (rfl : true = true), if_pos ⟨rfl, rfl⟩]
  obtain ⟨q1, q2⟩ := Q04 hl hj (Qc h2)
  rw [Q1a hl hj (Qc h2)]
  refine Rel.number (M := fun n => (mrd res T (f + 2) .factor (Qo T n.2)).bind fun q => some (binary [116, 104, 101, 110] n.1.num x q.1, mPop q.2)) hT (by omega) (fun h => ?_) fun t i' e p he => ?_
  ·exact (Q6t (ih _) (hid _) h).bind (fun y l _ => rfl) fun t i' e p he => ⟨_, _, rfl⟩
  ·obtain ⟨u, hu⟩ := hid .factor ⟨i', lv + 1, e, p⟩ he
   exact ⟨_, _, by (try dsimp only); rw [Q3p (by exact he), mUp, hu]; rfl⟩
theorem Qr3 (hT : TokOk T) (f : Nat) (ih : ∀ nt, RelR T (rd res T f nt) (mrd res T (f + 2) nt)) : RelR T (rd res T (f + 1) .formula) (mrd res T (f + 3) .formula) := fun lv i a hi => by
 have hl := hT.last
 have hon := fun nt => Q4a (res := res) hl f nt
 have hid := fun nt => Q62 (res := res) (T := T) f nt
 rw [rd, mrd]
 dsimp only
 refine (ih .disj lv i a hi).bind (fun x j hx => ?_) fun t i' e p he => ⟨_, _, if_neg (fun k => he k.1)⟩
 have hj := (hon .disj lv i hi _ _ hx).2
 dsimp only
 cases h2 : isW T [[117, 110, 116, 105, 108]] j
 ·rw [if_neg Bool.false_ne_true, if_neg (by simp)]
  exact rfl
 ·rw [if_pos (rfl : true = true), if_pos ⟨rfl, rfl⟩]
  obtain ⟨q1, q2⟩ := Q04 hl hj (Qc h2)
  rw [Q1a hl hj (Qc h2)]
  exact (Q6t (ih _) (hid _) (by omega)).bind (fun y l _ => rfl) fun t i' e p he => ⟨_, _, rfl⟩
theorem Q7j {ws : List (List UInt8)} (h : isW T ws i = true) : (tk T i).text ∈ ws := by
 unfold isW at h
 simp only [Bool.and_eq_true, List.contains_iff_mem] at h
 exact h.2
theorem Qiw (hT : TokOk T) (f : Nat) (ih : ∀ nt, RelR T (rd res T f nt) (mrd res T (f + 2) nt)) : RelR T (rd res T (f + 1) .lit) (mrd res T (f + 3) .lit) := fun lv i a hi => by
 have hl := hT.last
 have hon := fun nt => Q4a (res := res) hl f nt
 have hid := fun nt => Q62 (res := res) (T := T) f nt
 rw [rd, mrd]
 dsimp only
 rw [if_neg (fun h : (0 : Int) ≠ 0 => h rfl)]
 cases h0 : isW T [kNot] i
 ·rw [if_neg Bool.false_ne_true, if_neg Bool.false_ne_true]
  cases h1 : isW T [[116, 114, 117, 101]] i
  ·rw [if_neg Bool.false_ne_true, if_neg Bool.false_ne_true]
   cases h2 : isW T [[40]] i
   ·rw [if_neg Bool.false_ne_true, if_neg Bool.false_ne_true]
    have hgo : ∀ rs : List Rd, (tk T i).kind ≠ 3 → (∀ r ∈ rs, OnR T r) → (∀ i, i < T.length → Rel (Qt T rs (lv + 1) i) (Q06 T (mrd res T (f + 2) .formula) (tk T i).text ⟨i, lv + 1, 0, a⟩) (lv + 1) a) → True := fun _ _ _ _ => trivial
    clear hgo
    have hgo : ∀ rs : List Rd, (tk T i).kind ≠ 3 → (∀ r ∈ rs, OnR T r) → (∀ j, j < T.length → Rel (Qt T rs (lv + 1) j) (Q06 T (mrd res T (f + 2) .formula) (tk T i).text ⟨j, lv + 1, 0, a⟩) (lv + 1) a) →
      Rel (arguments T (tk T i) rs lv (nx T i)) ((Q06 T (mrd res T (f + 2) .formula) (tk T i).text (Qo T (Q7 T [40] (Q8 T ⟨i, lv, 0, a⟩)))).bind fun p => some (Syn.mk 10 (tk T i).text 0 (tk T i).pos p.1, Q7 T [41] (mPop p.2))) lv a := by
     intro rs hk3 ho hr
     obtain ⟨q1, q2⟩ := Q04 hl hi hk3
     rw [Q1a hl hi hk3]
     exact Q7y (lv := lv) (a := a) (i := nx T i) (rs := rs) hl hr ho (Qol (hid _) _) (by omega) (tk T i)
    have on1 : ∀ r ∈ [fun _ => number T], OnR T r := fun r hr => by rw [List.mem_singleton.1 hr]; exact fun _ _ h => Q29 hl h
    have on2 : ∀ r ∈ [fun _ => number T, fun _ => number T], OnR T r := fun r hr => by simp only [List.mem_cons, List.not_mem_nil, or_false, or_self] at hr; rw [hr]; exact fun _ _ h => Q29 hl h
    have on3 : ∀ r ∈ [fun _ => number T, rd res T f .formula], OnR T r := fun r hr => by
     simp only [List.mem_cons, List.not_mem_nil, or_false] at hr
     rcases hr with rfl | rfl
     ·exact fun _ _ h => Q29 hl h
     ·exact hon _
    have on4 : ∀ r ∈ [fun _ => setR T, rd res T f .formula], OnR T r := fun r hr => by
     simp only [List.mem_cons, List.not_mem_nil, or_false] at hr
     rcases hr with rfl | rfl
     ·exact fun _ _ h => Q9d hl h
     ·exact hon _
    have on5 : ∀ r ∈ [rd res T f .formula], OnR T r := fun r hr => by rw [List.mem_singleton.1 hr]; exact hon _
    have r1 : ∀ j, j < T.length → Rel (Qt T [fun _ => number T] (lv + 1) j) (some ([(Qd T ⟨j, lv + 1, 0, a⟩).1], (Qd T ⟨j, lv + 1, 0, a⟩).2)) (lv + 1) a := fun j hj => Q80 (Q6b hT) hj
    have r2 : ∀ j, j < T.length → Rel (Qt T [fun _ => number T, fun _ => number T] (lv + 1) j) (some ([(Qd T ⟨j, lv + 1, 0, a⟩).1, (Qd T (Q7 T [44] (Qd T ⟨j, lv + 1, 0, a⟩).2)).1], (Qd T (Q7 T [44] (Qd T ⟨j, lv + 1, 0, a⟩).2)).2)) (lv + 1) a :=
     fun j hj => Q98 hl (Q6b hT) (fun _ _ h => Q29 hl h) (Q6b hT) Qn2 hj
    have r3 : ∀ j, j < T.length → Rel (Qt T [fun _ => number T, rd res T f .formula] (lv + 1) j) ((mrd res T (f + 2) .formula (Q7 T [44] (Qd T ⟨j, lv + 1, 0, a⟩).2)).bind fun p => some ([(Qd T ⟨j, lv + 1, 0, a⟩).1, p.1], p.2)) (lv + 1) a :=
     fun j hj => Q98 hl (Q6b hT) (fun _ _ h => Q29 hl h) (ih _) (hid _) hj
    have r4 : ∀ j, j < T.length → Rel (Qt T [fun _ => setR T, rd res T f .formula] (lv + 1) j) ((mSet T ⟨j, lv + 1, 0, a⟩).bind fun q => (mrd res T (f + 2) .formula (Q7 T [44] q.2)).bind fun p => some ([q.1, p.1], p.2)) (lv + 1) a :=
     fun j hj => Q98 hl (Qij hT) (fun _ _ h => Q9d hl h) (ih _) (hid _) hj
    have r5 : ∀ j, j < T.length → Rel (Qt T [rd res T f .formula] (lv + 1) j) ((mrd res T (f + 2) .formula ⟨j, lv + 1, 0, a⟩).bind fun p => some ([p.1], p.2)) (lv + 1) a := fun j hj => Q80 (ih _) hj
    have hall : isW T [[105, 110, 112, 117, 116], [104, 101, 97, 114, 100], [100, 101, 99, 105, 100, 101, 100], [103, 105, 118, 101, 110], [102, 97, 117, 108, 116, 121], [97, 116], [75], [69], [68], [67], [110, 101, 120, 116], [97, 108, 119, 97, 121, 115], [101, 118, 101, 110, 116, 117, 97, 108, 108, 121]] i
      = (isW T [[105, 110, 112, 117, 116], [104, 101, 97, 114, 100], [100, 101, 99, 105, 100, 101, 100]] i || (isW T [[103, 105, 118, 101, 110], [102, 97, 117, 108, 116, 121], [97, 116]] i || (isW T [[75]] i || (isW T [[69], [68], [67]] i || isW T [[110, 101, 120, 116], [97, 108, 119, 97, 121, 115], [101, 118, 101, 110, 116, 117, 97, 108, 108, 121]] i)))) := by
     unfold isW
     cases (decide ((tk T i).kind = 2) || decide ((tk T i).kind = 0))
     ·rfl
     ·simp only [Bool.true_and, List.contains_cons, Bool.or_assoc, List.contains_nil, Bool.or_false]
    rw [hall]
    cases h3 : isW T [[105, 110, 112, 117, 116], [104, 101, 97, 114, 100], [100, 101, 99, 105, 100, 101, 100]] i
    ·rw [if_neg Bool.false_ne_true, Bool.false_or]
     cases h4 : isW T [[103, 105, 118, 101, 110], [102, 97, 117, 108, 116, 121], [97, 116]] i
     ·rw [if_neg Bool.false_ne_true, Bool.false_or]
      cases h5 : isW T [[75]] i
      ·rw [if_neg Bool.false_ne_true, Bool.false_or]
       cases h6 : isW T [[69], [68], [67]] i
       ·rw [if_neg Bool.false_ne_true, Bool.false_or]
        cases h7 : isW T [[110, 101, 120, 116], [97, 108, 119, 97, 121, 115], [101, 118, 101, 110, 116, 117, 97, 108, 108, 121]] i
        ·rw [if_neg Bool.false_ne_true, if_neg Bool.false_ne_true]
         exact Q8j _
        ·rw [if_pos (rfl : true = true), if_pos (rfl : true = true)]
         refine hgo _ (Qc h7) on5 ?_
         have hm := Q7j h7
         generalize (tk T i).text = tx at hm ⊢
         intro j hj
         simp only [List.mem_cons, List.not_mem_nil, or_false] at hm
         rcases hm with rfl | rfl | rfl <;> exact r5 j hj
       ·rw [if_pos (rfl : true = true), Bool.true_or, if_pos (rfl : true = true)]
        refine hgo _ (Qc h6) on4 ?_
        have hm := Q7j h6
        generalize (tk T i).text = tx at hm ⊢
        intro j hj
        simp only [List.mem_cons, List.not_mem_nil, or_false] at hm
        rcases hm with rfl | rfl | rfl <;> exact r4 j hj
      ·rw [if_pos (rfl : true = true), Bool.true_or, if_pos (rfl : true = true)]
       refine hgo _ (Qc h5) on3 ?_
       have hm := Q7j h5
       generalize (tk T i).text = tx at hm ⊢
       intro j hj
       simp only [List.mem_cons, List.not_mem_nil, or_false] at hm
       subst hm
       exact r3 j hj
     ·rw [if_pos (rfl : true = true), Bool.true_or, if_pos (rfl : true = true)]
      refine hgo _ (Qc h4) on1 ?_
      have hm := Q7j h4
      generalize (tk T i).text = tx at hm ⊢
      intro j hj
      simp only [List.mem_cons, List.not_mem_nil, or_false] at hm
      rcases hm with rfl | rfl | rfl <;> exact r1 j hj
    ·rw [if_pos (rfl : true = true), Bool.true_or, if_pos (rfl : true = true)]
     refine hgo _ (Qc h3) on2 ?_
     have hm := Q7j h3
     generalize (tk T i).text = tx at hm ⊢
     intro j hj
     simp only [List.mem_cons, List.not_mem_nil, or_false] at hm
     rcases hm with rfl | rfl | rfl <;> exact r2 j hj
   ·rw [if_pos (rfl : true = true), if_pos (rfl : true = true)]
    exact Qcu hl (hon _) (ih _) (hid _) hi h2
  ·rw [if_pos (rfl : true = true), if_pos (rfl : true = true), Q1a hl hi (Qc h1)]
   exact rfl
 ·rw [if_pos (rfl : true = true), if_pos (rfl : true = true)]
  exact Qe6 hl (ih _) (hid _) hi h0
theorem Qb8 (hT : TokOk T) (hW : Words res) (f : Nat) : ∀ nt, RelR T (rd res T f nt) (mrd res T (f + 2) nt) := by
 induction f with
 | zero => intro nt lv i a _; trivial
 | succ f ih =>
  have hl := hT.last
  have hon := fun nt => Q4a (res := res) hl f nt
  intro nt
  cases nt with
  | neg => exact Qjd hT f ih
  | unit => exact Qr7 hT hW f ih
  | factor => exact Qsi hT f ih
  | atom => exact Qo7 hT hW f ih
  | formula => exact Qr3 hT f ih
  | lit => exact Qiw hT f ih
  | _ => exact Qrt hl (hon _) (ih _)
end
end
section
section
variable {res : List UInt8 → Bool} {T : List Tok} {lv lv' i f : Nat} {a : Int}
theorem Qaf {r : Rd} {m : MRd} (h0 : 0 < T.length) (hr : RelR T r m) : Rel (whole T r) (Q79 T m) 0 0 := by
 unfold whole Q79
 refine (hr 0 0 0 h0).bind (fun x j hx => ?_) fun t i' e p he => ⟨t, i', by unfold mEnd; split <;> simp [Q5v, he]⟩
 dsimp only [mEnd]
 by_cases hk : (tk T j).kind = 3
 ·rw [if_pos hk, if_pos hk]; exact rfl
 ·rw [if_neg hk, if_neg hk]; exact Q8j _
end
end
section
def sepd (y : List UInt8) : Prop := ∀ b r, y = b :: r → Q5 b.toNat = false ∧ b ≠ 61
theorem sepd.fits {y x : List UInt8} (h : sepd y) : fits x y := fun c hc => by
 cases y with
 | nil => cases hc
 | cons b r =>
  obtain rfl : b = c := by simpa using hc
  exact ⟨fun _ => (h b r rfl).1, fun e => (h b r rfl).2 e.2⟩
theorem Qbf : sepd [] := fun _ _ h => by cases h
theorem Qhs {b : UInt8} {r : List UInt8} (h1 : Q5 b.toNat = false) (h2 : b ≠ 61) : sepd (b :: r) := fun _ _ h => by injection h with h _; subst h; exact ⟨h1, h2⟩
def Spl (s : List UInt8) (K : List KT) : Prop := ∀ y B, sepd y → Lx y B → Lx (s ++ y) (K ++ B)
theorem Q18 {s : List UInt8} {k : Nat} (h : tok s = .ok (k, s.length)) : Spl s [((k : Int), s)] := fun _ _ hs hy => Qdd h hs.fits hy
theorem Q35 {b : UInt8} (hb : b = 40 ∨ b = 41 ∨ b = 59 ∨ b = 44 ∨ b = 58 ∨ b = 123 ∨ b = 125) : Spl [b] [(2, [b])] := fun _ _ _ hy => Qgc hb hy
theorem Spl.then {s t : List UInt8} {K J : List KT} (h : Spl s K) (h' : Spl t J) (ht : ∀ y, sepd y → sepd (t ++ y)) : Spl (s ++ t) (K ++ J) := fun y B hs hy => by
 rw [List.append_assoc, List.append_assoc]
 exact h _ _ (ht y hs) (h' _ _ hs hy)
theorem Spl.signed {t : List UInt8} {J : List KT} {b : UInt8} (hb : b = 40 ∨ b = 41 ∨ b = 59 ∨ b = 44 ∨ b = 58 ∨ b = 123 ∨ b = 125) (h : Spl t J) : Spl (b :: t) ((2, [b]) :: J) := fun _ _ hs hy => Qgc hb (h _ _ hs hy)
theorem Spl.blank {t : List UInt8} {J : List KT} (h : Spl t J) : Spl (32 :: t) J := fun _ _ hs hy => Qsn (by decide) (h _ _ hs hy)
theorem Qg8 {b : UInt8} {t : List UInt8} (h1 : Q5 b.toNat = false) (h2 : b ≠ 61) : ∀ y, sepd y → sepd (b :: t ++ y) := fun _ _ => Qhs h1 h2
theorem Spl.thenC {s t : List UInt8} {K J : List KT} {b : UInt8} (h : Spl s K) (h' : Spl (b :: t) J) (h1 : Q5 b.toNat = false := by decide) (h2 : b ≠ 61 := by decide) : Spl (s ++ b :: t) (K ++ J) := h.then h' (Qg8 h1 h2)
theorem Q26 {s : List UInt8} {K : List KT} {b : Bool} (h : Spl s K) : Spl (par b s) (parK b K) := by
 cases b
 ·exact h
 ·exact Spl.signed (.inl rfl) (h.thenC (Q35 (.inr (.inl rfl))))
theorem Q47 {x : Syn} (h : isNm x = true) : x.kind = 8 ∧ x.num = 0 ∧ x.kids = [] ∧ Q1h x.text = true := by
 unfold isNm at h
 simp only [Bool.and_eq_true, decide_eq_true_eq, List.isEmpty_iff] at h
 exact ⟨h.1.1.1, h.1.1.2, h.1.2, h.2⟩
theorem Q4t {x : Syn} (h : Q2 x = true) : x.kind = 9 ∧ x.text = [] ∧ (0 ≤ x.num ∧ x.num ≤ 1048576) ∧ x.kids = [] := by
 unfold Q2 natB at h
 simp only [Bool.and_eq_true, decide_eq_true_eq, List.isEmpty_iff, beq_iff_eq] at h
 exact ⟨h.1.1.1, h.1.1.2, h.1.2, h.2⟩
def tokB (k : Nat) (s : List UInt8) : Bool := match tok s with | .ok (a, b) => a == k && b == s.length | .error _ => false
theorem tokIs {k : Nat} {s : List UInt8} (h : tokB k s = true) : tok s = .ok (k, s.length) := by
 unfold tokB at h
 split at h
 ·rename_i a b e
  simp only [Bool.and_eq_true, beq_iff_eq] at h
  rw [e, h.1, h.2]
 ·cases h
theorem Q3s {s : List UInt8} (h : tokB 0 s = true := by decide) : Spl s [(0, s)] := Q18 (tokIs h)
theorem Q83 {t : List UInt8} (h : (opP 0 t).isSome = true) : t = kOr ∨ t = kAnd ∨ t ∈ cmps ∨ t ∈ sums := by
 unfold opP at h
 rw [if_pos rfl] at h
 by_cases h1 : t = kOr
 ·exact .inl h1
 ·by_cases h2 : t = kAnd
  ·exact .inr (.inl h2)
  ·by_cases h3 : t ∈ cmps
   ·exact .inr (.inr (.inl h3))
   ·by_cases h4 : t ∈ sums
    ·exact .inr (.inr (.inr h4))
    ·simp [h1, h2, h3, h4] at h
theorem Qkj {t : List UInt8} (h : (opP 0 t).isSome = true) : Spl t [opK t] := by
 rcases Q83 h with rfl | rfl | h | h
 ·exact Q18 (tokIs (by decide))
 ·exact Q18 (tokIs (by decide))
 ·simp only [cmps, List.mem_cons, List.not_mem_nil, or_false] at h
  rcases h with rfl | rfl | rfl | rfl <;> exact Q18 (k := 2) (tokIs (by decide))
 ·simp only [sums, List.mem_cons, List.not_mem_nil, or_false] at h
  rcases h with rfl | rfl <;> exact Q18 (k := 2) (tokIs (by decide))
theorem Q8q {k : Int} {t : List UInt8} {n p : Int} (h : okc (.mk k t n p []) = true) : (k = 9 ∧ t = [] ∧ 0 ≤ n ∧ n ≤ 1048576) ∨ (k = 8 ∧ n = 0 ∧ Q1h t = true) := by
 rw [okc, Bool.or_eq_true] at h
 rcases h with h | h
 ·exact .inl ⟨(Q4t h).1, (Q4t h).2.1, (Q4t h).2.2.1⟩
 ·exact .inr ⟨(Q47 h).1, (Q47 h).2.1, (Q47 h).2.2.2⟩
theorem Q95 {k : Int} {t : List UInt8} {n p : Int} {a : Syn} (h : okc (.mk k t n p [a]) = true) : okc a = true ∧ ((k = 12 ∧ t = [] ∧ n = 0) ∨ (k = 10 ∧ n = 0 ∧ (t = kIn ∨ t = kOut))) := by
 rw [okc] at h
 simp only [Bool.or_eq_true, Bool.and_eq_true, decide_eq_true_eq, beq_iff_eq] at h
 rcases h with ⟨⟨⟨h1, h2⟩, h3⟩, h4⟩ | ⟨⟨⟨h1, h2⟩, h3⟩, h4⟩
 ·exact ⟨h4, .inl ⟨h1, h2, h3⟩⟩
 ·exact ⟨h4, .inr ⟨h1, h2, h3⟩⟩
theorem Q8g {k : Int} {t : List UInt8} {n p : Int} {a b : Syn} (h : okc (.mk k t n p [a, b]) = true) :
  okc b = true ∧ n = 0 ∧ ((k = 13 ∧ (t = kAll ∨ t = Q2c ∨ t = Qe) ∧ isNm a = true) ∨ (k = 10 ∧ t = Q0g ∧ okc a = true) ∨ (k = 11 ∧ (opP 0 t).isSome = true ∧ okc a = true)) := by
 rw [okc] at h
 simp only [Bool.or_eq_true, Bool.and_eq_true, decide_eq_true_eq, beq_iff_eq] at h
 rcases h with (⟨⟨⟨⟨h1, h2⟩, h3⟩, h4⟩, h5⟩ | ⟨⟨⟨⟨h1, h2⟩, h3⟩, h4⟩, h5⟩) | ⟨⟨⟨⟨h1, h2⟩, h3⟩, h4⟩, h5⟩
 ·exact ⟨h5, h3, .inl ⟨h1, by rcases h2 with (h | h) | h <;> simp [h], h4⟩⟩
 ·exact ⟨h5, h2, .inr (.inl ⟨h1, h3, h4⟩)⟩
 ·exact ⟨h5, h2, .inr (.inr ⟨h1, h3, h4⟩)⟩
theorem Q56 : ∀ t : Syn, okc t = true → Spl (wrc t) (ktc t)
 | .mk k t n p [], h => by
  rw [wrc, ktc]
  rcases Q8q h with ⟨rfl, rfl, h1, h2⟩ | ⟨rfl, rfl, h1⟩
  ·rw [if_pos rfl, if_pos rfl]
   exact Q18 (k := 1) (Q9y (by omega))
  ·rw [if_neg (by decide), if_neg (by decide)]
   exact Q18 (k := 0) (Q4m h1).1
 | .mk k t n p [a], h => by
  rw [wrc, ktc]
  obtain ⟨ha, h'⟩ := Q95 h
  have ia := Q56 a ha
  clear h
  rcases h' with ⟨rfl, rfl, rfl⟩ | ⟨rfl, rfl, h'⟩
  ·rw [if_pos rfl, if_pos rfl]
   exact (Q3s).thenC (Q26 ia).blank
  ·rw [if_neg (by decide), if_neg (by decide)]
   have ht : tok t = .ok (0, t.length) := by rcases h' with rfl | rfl <;> exact tokIs (by decide)
   exact (Q18 ht).thenC (Spl.signed (.inl rfl) ((Q26 ia).thenC (Q35 (.inr (.inl rfl)))))
 | .mk k t n p [a, b], h => by
  rw [wrc, ktc]
  obtain ⟨hb, hn0, h'⟩ := Q8g h
  have ib := Q56 b hb
  clear h
  rcases h' with ⟨rfl, h', ha⟩ | ⟨rfl, rfl, ha⟩ | ⟨rfl, h', ha⟩
  ·rw [if_pos rfl, if_pos rfl]
   have hn := Q18 (k := 0) (Q4m (Q47 ha).2.2.2).1
   have ht : tok t = .ok (0, t.length) := by rcases h' with rfl | rfl | rfl <;> exact tokIs (by decide)
   by_cases hc : t = Qe
   ·rw [if_pos hc, if_pos hc]
    exact (Q18 ht).thenC (hn.thenC (Q26 ib).blank).blank
   ·rw [if_neg hc, if_neg hc]
    exact (Q18 ht).thenC (hn.thenC (Spl.signed (by simp) ib.blank)).blank
  ·rw [if_neg (by decide), if_pos rfl, if_neg (by decide), if_pos rfl]
   have ia := Q56 a ha
   exact (Q3s).thenC (Spl.signed (.inl rfl) ((Q26 ia).thenC (Spl.signed (by simp) ((Q26 ib).thenC (Q35 (.inr (.inl rfl)))).blank)))
  ·rw [if_neg (by decide), if_neg (by decide), if_neg (by decide), if_neg (by decide)]
   have ia := Q56 a ha
   exact (Q26 ia).thenC ((Qkj h').thenC (Q26 ib).blank).blank
 | .mk _ _ _ _ (_ :: _ :: _ :: _), h => by simp [okc] at h
def ntc : Nat → NT | 0 => .cond | 1 => .conj | 2 => .neg | 4 => .sum | _ => .unit
def goC (m : Nat) : List (List (List UInt8)) := if m = 0 then [[kOr], [kAnd], cmps, sums] else if m = 1 then [[kAnd], cmps, sums] else if m = 2 then [cmps, sums] else if m = 4 then [sums] else []
def Qu (m : Nat) (c : KT) : Prop := ∀ ws ∈ goC m, noOp ws c
theorem Qu.le {m m' : Nat} {c : KT} (h : Qu m c) (hm : m = 0 ∨ m = 1 ∨ m = 2 ∨ m = 4 ∨ m = 5) (hm' : m' = 0 ∨ m' = 1 ∨ m' = 2 ∨ m' = 4 ∨ m' = 5) (hl : m ≤ m') : Qu m' c := fun ws hw => h ws (by
 rcases hm with rfl | rfl | rfl | rfl | rfl <;> rcases hm' with rfl | rfl | rfl | rfl | rfl <;> first | omega | (simp [goC] at hw; done) | exact hw | (simp [goC] at hw ⊢; first | done | exact hw | (subst hw; simp; done) | (rcases hw with rfl | rfl <;> simp; done) | (rcases hw with rfl | rfl | rfl <;> simp; done) | (rcases hw with rfl | rfl | rfl | rfl <;> simp; done)))
theorem Q3h {m : Nat} : Qu m (2, [41]) := by
 unfold Qu goC noOp
 split <;> (try split) <;> (try split) <;> (try split) <;> decide
theorem Qh6 {m : Nat} : Qu m (2, [44]) := by
 unfold Qu goC noOp
 split <;> (try split) <;> (try split) <;> (try split) <;> decide
section
variable {U : List Tok} {f lv i L : Nat} {x : Syn} {A B : List KT} {c : KT}
abbrev R (U : List Tok) (f m : Nat) : Rd := rd Q0 U f (ntc m)
def okM (m : Nat) : Prop := m = 0 ∨ m = 1 ∨ m = 2 ∨ m = 4 ∨ m = 5
def Q4n (c : KT) : Prop := noOp [kNot] c ∧ noOp [kAll, Q2c] c
theorem up45 (h : ∀ f lv, DN x L (R U f 5 lv i)) (hL : Tl U L (c :: B)) (hs : Qu 4 c) : ∀ f lv, DN x L (R U f 4 lv i)
 | 0, _ => trivial
 | f + 1, lv => Q3j (r := R U f 5) (Q28 (h f lv)) (noOp.isW hL (hs sums (by simp [goC])))
theorem up24 (h : ∀ f lv, DN x L (R U f 4 lv i)) {d : KT} (h0 : Tl U i (d :: A)) (hd : Q4n d) (hL : Tl U L (c :: B)) (hs : Qu 2 c) : ∀ f lv, DN x L (R U f 2 lv i)
 | 0, _ => trivial
 | f + 1, lv => by
  show DN x L (rd Q0 U (f + 1) .neg lv i)
  rw [rd]
  dsimp only
  rw [if_neg (hd.1.isW h0), if_neg (noOp.isW h0 hd.2)]
  refine (h f lv).bind fun y hy => ?_
  rw [if_neg (noOp.isW hL (hs cmps (by simp [goC])))]
  exact Q0k hy
theorem up12 (h : ∀ f lv, DN x L (R U f 2 lv i)) (hL : Tl U L (c :: B)) (hs : Qu 1 c) : ∀ f lv, DN x L (R U f 1 lv i)
 | 0, _ => trivial
 | f + 1, lv => Q3j (r := R U f 2) (Q28 (h f lv)) (noOp.isW hL (hs [kAnd] (by simp [goC])))
theorem up01 (h : ∀ f lv, DN x L (R U f 1 lv i)) (hL : Tl U L (c :: B)) (hs : Qu 0 c) : ∀ f lv, DN x L (R U f 0 lv i)
 | 0, _ => trivial
 | f + 1, lv => Q3j (r := R U f 1) (Q28 (h f lv)) (noOp.isW hL (hs [kOr] (by simp [goC])))
theorem upC {m m' : Nat} (hm : okM m) (hm' : okM m') (hl : m' ≤ m) (h : ∀ f lv, DN x L (R U f m lv i)) (hd : 4 ≤ m → ∃ d A, Tl U i (d :: A) ∧ Q4n d) (hL : Tl U L (c :: B)) (hs : Qu m' c) : ∀ f lv, DN x L (R U f m' lv i) := by
 have s4 : m' ≤ 4 → Qu 4 c := fun e => hs.le hm' (by simp) e
 have s2 : m' ≤ 2 → Qu 2 c := fun e => hs.le hm' (by simp) e
 have s1 : m' ≤ 1 → Qu 1 c := fun e => hs.le hm' (by simp) e
 by_cases e5 : m' = 5
 ·obtain rfl : m = m' := by rcases hm with rfl | rfl | rfl | rfl | rfl <;> omega
  exact h
 have h4 : 4 ≤ m → ∀ f lv, DN x L (R U f 4 lv i) := fun e => by
  by_cases e' : m = 4
  ·exact e' ▸ h
  ·obtain rfl : m = 5 := by rcases hm with rfl | rfl | rfl | rfl | rfl <;> omega
   exact up45 h hL (s4 (by rcases hm' with rfl | rfl | rfl | rfl | rfl <;> omega))
 by_cases e4 : m' = 4
 ·subst e4; exact h4 hl
 have m2 : m' ≤ 2 := by rcases hm' with rfl | rfl | rfl | rfl | rfl <;> omega
 have h2 : 2 ≤ m → ∀ f lv, DN x L (R U f 2 lv i) := fun e => by
  by_cases e' : m = 2
  ·exact e' ▸ h
  ·have e4 : 4 ≤ m := by rcases hm with rfl | rfl | rfl | rfl | rfl <;> omega
   obtain ⟨d, A, h0, hd⟩ := hd e4
   exact up24 (h4 e4) h0 hd hL (s2 m2)
 by_cases e2 : m' = 2
 ·subst e2; exact h2 hl
 have h1 : 1 ≤ m → ∀ f lv, DN x L (R U f 1 lv i) := fun e => by
  by_cases e' : m = 1
  ·exact e' ▸ h
  ·exact up12 (h2 (by omega)) hL (s1 (by omega))
 by_cases e1 : m' = 1
 ·subst e1; exact h1 hl
 obtain rfl : m' = 0 := by omega
 by_cases e' : m = 0
 ·exact e' ▸ h
 ·exact up01 (h1 (by omega)) hL hs
def RdC (U : List Tok) (t : Syn) : Prop :=
 ∀ m f lv i c B, okM m → m ≤ lvl 0 t → Tl U i (ktc t ++ c :: B) → Qu m c → (opn t = true → Qu 0 c) → DN t (i + (ktc t).length) (R U f m lv i)
theorem operC {b : Bool} {m : Nat} (h : RdC U x) (hm : okM m) (hb : b = false → m ≤ lvl 0 x) (h0 : Tl U i (parK b (ktc x) ++ c :: B)) (hs : Qu m c) (ho : b = false → opn x = true → Qu 0 c) :
  ∀ f lv, DN x (i + (parK b (ktc x)).length) (R U f m lv i) := by
 cases b with
 | false => exact fun f lv => h m f lv i c B hm (hb rfl) h0 hs (ho rfl)
 | true =>
  have h0' : Tl U i ((2, [40]) :: (ktc x ++ (2, [41]) :: c :: B)) := by simpa [parK] using h0
  have h1 := Qn h0'
  have h2 := Q07 (A := ktc x) h1
  have hlen : i + (parK true (ktc x)).length = i + 1 + (ktc x).length + 1 := by simp [parK]; omega
  rw [hlen]
  refine upC (m := 5) (by unfold okM; omega) hm (by rcases hm with rfl | rfl | rfl | rfl | rfl <;> omega) (fun f lv => ?_) (fun _ => ⟨_, _, h0', by unfold noOp; decide, by unfold noOp; decide⟩) (Qn h2) hs
  cases f with
  | zero => trivial
  | succ f =>
   show DN x _ (rd Q0 U (f + 1) .unit lv i)
   rw [Qs5 h0']
   exact Q8b h0' (Q2i h1) (h 0 f (lv + 1) (i + 1) _ _ (by unfold okM; omega) (Nat.zero_le _) h1 Q3h (fun _ => Q3h)) h2
end
end
section
def nxt (p : Nat) : Nat := if p = 0 then 1 else if p = 1 then 2 else 5
def opsL (p : Nat) : List (List UInt8) := if p = 0 then [kOr] else if p = 1 then [kAnd] else sums
section
variable {U : List Tok} {f lv i j L M : Nat} {x y a b : Syn} {A B K : List KT} {c d : KT} {r r' : Rd} {w : Tok} {t : List UInt8}
theorem Q7s {n p : Int} (hw : w.text = t) (hn : n = 0) (h0 : Tl U j ((2, [40]) :: A)) (hj : j + 1 < U.length) (h : DN x L (r (lv + 1) (j + 1))) (h1 : Tl U L ((2, [41]) :: c :: B)) :
  DN (.mk 10 t n p [x]) (L + 1) (arguments U w [r] lv j) := by
 unfold arguments
 rw [Q7u h0 (.inl rfl) hj, Q15]
 split
 ·rfl
 ·rw [Qt, Out.bind_assoc]
  refine h.bind fun y hy => ?_
  rw [Qt.argsMore, Q15, Q15, Q5z h1 (.inl rfl), Q15, hw, hn]
  exact Q0k (.mk trivial (.cons hy .nil))
theorem Qfo {n p : Int} (hw : w.text = t) (hn : n = 0) (h0 : Tl U j ((2, [40]) :: A)) (hj : j + 1 < U.length) (h : DN x L (r (lv + 1) (j + 1))) (h1 : Tl U L ((2, [44]) :: K)) (hL : L + 1 < U.length) (h' : DN y M (r' (lv + 1) (L + 1)))
  (h2 : Tl U M ((2, [41]) :: c :: B)) : DN (.mk 10 t n p [x, y]) (M + 1) (arguments U w [r, r'] lv j) := by
 unfold arguments
 rw [Q7u h0 (.inl rfl) hj, Q15]
 split
 ·rfl
 ·rw [Qt, Out.bind_assoc]
  refine h.bind fun x' hx => ?_
  rw [Qt.argsMore, Q7u h1 (.inl rfl) hL, Q15, Out.bind_assoc, Out.bind_assoc]
  refine h'.bind fun y' hy => ?_
  rw [Qt.argsMore, Q15, Q15, Q15, Q5z h2 (.inl rfl), Q15, hw, hn]
  exact Q0k (.mk trivial (.cons hx (.cons hy .nil)))
theorem Q5r (h : Tl U i ((0, t) :: K)) (hr : Q0 t = false) {ws : List (List UInt8)} (hw : ∀ w ∈ ws, w ∈ Q1f := by decide) : ¬ isW U ws i = true := Q03 h (by rw [Qcx hr ws hw]; rfl)
theorem Qh2 (hn : Q1h t = true) : t ≠ [40] ∧ t ≠ [123] := by
 constructor <;> (rintro rfl; revert hn; decide)
theorem Qdf (h : Tl U i ((0, t) :: K)) {s : List UInt8} (hs : t ≠ s) : ¬ isW U [s] i = true := Q03 h (by
 show (_ && List.contains [s] t) = false
 have : List.contains [s] t = false := by simpa using hs
 rw [this]; rfl)
theorem Qiq (hr : Q0 t = false) : Q4n (0, t) := ⟨by unfold noOp; rw [Qcx hr _ (by decide)]; rfl, by unfold noOp; rw [Qcx hr _ (by decide)]; rfl⟩
theorem Q7d {c : KT} (h : ((decide (c.1 = 2) || decide (c.1 = 0)) && List.contains [kNot] c.2) = false ∧ ((decide (c.1 = 2) || decide (c.1 = 0)) && List.contains [kAll, Q2c] c.2) = false) : Q4n c := h
theorem Qcm : opP 0 kOr = some (0, 0, 1) := by decide
theorem Qcb : opP 0 kAnd = some (1, 1, 2) := by decide
theorem Qag (h : t ∈ cmps) : opP 0 t = some (3, 4, 4) := by
 simp only [cmps, List.mem_cons, List.not_mem_nil, or_false] at h
 rcases h with rfl | rfl | rfl | rfl <;> decide
theorem Qby (h : t ∈ sums) : opP 0 t = some (4, 4, 5) := by
 simp only [sums, List.mem_cons, List.not_mem_nil, or_false] at h
 rcases h with rfl | rfl <;> decide
theorem Q4o {n p : Int} {ks : List Syn} {o l r : Nat} (h : opP 0 t = some (o, l, r)) : lvl 0 (.mk 11 t n p ks) = o := by simp [lvl, Syn.kind, Syn.text, own, h]
theorem Q5d {o l r : Nat} (h : opP 0 t = some (o, l, r)) : lft 0 t = l ∧ rgt 0 t = r := by simp [lft, rgt, h]
theorem Q9j : ∀ t : Syn, okc t = true → 4 ≤ lvl 0 t → opn t = false
 | .mk k t n p [], h, _ => by
  rcases Q8q h with ⟨rfl, -⟩ | ⟨rfl, -⟩ <;> simp [opn]
 | .mk k t n p [a], h, hl => by
  obtain ⟨ha, h'⟩ := Q95 h
  rcases h' with ⟨hk, -⟩ | ⟨hk, -⟩ <;> subst hk
  ·simp [lvl, Syn.kind] at hl
  ·simp [opn]
 | .mk k t n p [a, b], h, hl => by
  obtain ⟨hb, hn0, h'⟩ := Q8g h
  rcases h' with ⟨hk, h', ha⟩ | ⟨hk, ht, ha⟩ | ⟨hk, h', ha⟩ <;> subst hk
  ·by_cases hc : t = Qe
   ·simp [opn, hc]
   ·simp [lvl, Syn.kind, Syn.text, hc] at hl
  ·simp [opn]
  ·rcases Q83 h' with rfl | rfl | ho | ho
   ·rw [Q4o Qcm] at hl; omega
   ·rw [Q4o Qcb] at hl; omega
   ·rw [Q4o (Qag ho)] at hl; omega
   ·rw [opn, if_neg (by decide), (Q5d (Qby ho)).2]
    by_cases h5 : 5 ≤ lvl 0 b
    ·rw [Q9j b hb (by omega)]; simp
    ·simp [h5]
 | .mk _ _ _ _ (_ :: _ :: _ :: _), h, _ => by simp [okc] at h
theorem Qch {b : Bool} (h : b = false → ∃ d A, ktc x = d :: A ∧ Q4n d) : ∃ d A, parK b (ktc x) = d :: A ∧ Q4n d := by
 cases b with
 | false => exact h rfl
 | true => exact ⟨_, _, rfl, Q7d (by decide)⟩
theorem Q4b : ∀ t : Syn, okc t = true → 4 ≤ lvl 0 t → ∃ d A, ktc t = d :: A ∧ Q4n d
 | .mk k t n p [], h, _ => by
  rcases Q8q h with ⟨rfl, -⟩ | ⟨rfl, -, h1⟩
  ·exact ⟨_, _, by rw [ktc, if_pos rfl], Q7d (by simp)⟩
  ·exact ⟨_, _, by rw [ktc, if_neg (by decide)], Qiq (Q4m h1).2⟩
 | .mk k t n p [a], h, hl => by
  obtain ⟨ha, h'⟩ := Q95 h
  rcases h' with ⟨hk, -⟩ | ⟨hk, -, h'⟩ <;> subst hk
  ·simp [lvl, Syn.kind] at hl
  ·exact ⟨_, _, by rw [ktc, if_neg (by decide)], Q7d (by rcases h' with rfl | rfl <;> decide)⟩
 | .mk k t n p [a, b], h, hl => by
  obtain ⟨hb, hn0, h'⟩ := Q8g h
  rcases h' with ⟨hk, h', ha⟩ | ⟨hk, ht, ha⟩ | ⟨hk, h', ha⟩ <;> subst hk
  ·by_cases hc : t = Qe
   ·exact ⟨_, _, by rw [ktc, if_pos rfl, if_pos hc], Q7d (by rw [hc]; decide)⟩
   ·simp [lvl, Syn.kind, Syn.text, hc] at hl
  ·exact ⟨_, _, by rw [ktc, if_neg (by decide), if_pos rfl], Q7d (by rw [ht]; decide)⟩
  ·rcases Q83 h' with rfl | rfl | ho | ho
   ·rw [Q4o Qcm] at hl; omega
   ·rw [Q4o Qcb] at hl; omega
   ·rw [Q4o (Qag ho)] at hl; omega
   ·rw [ktc, if_neg (by decide), if_neg (by decide), (Q5d (Qby ho)).1]
    obtain ⟨d, A, e, hd⟩ := Qch (x := a) (b := Q1n t a || decide (lvl 0 a < 4)) (fun hb => Q4b a ha (by
     simp only [Bool.or_eq_false_iff, decide_eq_false_iff_not] at hb; omega))
    exact ⟨d, _, by rw [e]; rfl, hd⟩
 | .mk _ _ _ _ (_ :: _ :: _ :: _), h, _ => by simp [okc] at h
def SpC (U : List Tok) (t : Syn) : Prop :=
 ∀ p f lv i c B, (p = 0 ∨ p = 1 ∨ p = 4) → p ≤ lvl 0 t → Tl U i (ktc t ++ c :: B) → Qu (nxt p) c → (opn t = true → Qu 0 c) → SP U (R U f (nxt p)) (opsL p) lv i t (i + (ktc t).length)
theorem Q78 {p : Nat} (h : p = 0 ∨ p = 1 ∨ p = 4) : okM (nxt p) := by rcases h with rfl | rfl | rfl <;> (unfold okM nxt; decide)
theorem Qb1 {p : Nat} (h : p = 0 ∨ p = 1 ∨ p = 4) : okM p := by rcases h with rfl | rfl | rfl <;> (unfold okM; decide)
theorem Qhb (h : RdC U x) (hl : lvl 0 x = 2 ∨ lvl 0 x = 3 ∨ lvl 0 x = 5) : SpC U x := fun p f lv i c B hp hle h0 hs ho =>
 Q28 (h (nxt p) f lv i c B (Q78 hp) (by rcases hp with rfl | rfl | rfl <;> (unfold nxt; simp; omega)) h0 hs ho)
theorem Q3e {A : List KT} : ∃ d K, A ++ c :: B = d :: K := by
 cases A with
 | nil => exact ⟨_, _, rfl⟩
 | cons a r => exact ⟨_, _, rfl⟩
theorem Qfi {p : Nat} (h : (p = 0 ∧ t = kOr) ∨ (p = 1 ∧ t = kAnd) ∨ (p = 4 ∧ t ∈ sums)) : Qu (nxt p) (opK t) := by
 rcases h with ⟨rfl, rfl⟩ | ⟨rfl, rfl⟩ | ⟨rfl, h⟩
 ·unfold Qu goC nxt noOp; decide
 ·unfold Qu goC nxt noOp; decide
 ·simp only [sums, List.mem_cons, List.not_mem_nil, or_false] at h
  rcases h with rfl | rfl <;> (unfold Qu goC nxt noOp; decide)
theorem Qb7 {p : Nat} {n q : Int} (hp : (p = 0 ∧ t = kOr) ∨ (p = 1 ∧ t = kAnd) ∨ (p = 4 ∧ t ∈ sums)) (ho : opP 0 t = some (p, p, nxt p)) (hn : n = 0) (hoa : okc a = true)
  (ha : RdC U a ∧ SpC U a) (hb : RdC U b) : RdC U (.mk 11 t n q [a, b]) ∧ SpC U (.mk 11 t n q [a, b]) := by
 have hp' : p = 0 ∨ p = 1 ∨ p = 4 := by rcases hp with ⟨h, -⟩ | ⟨h, -⟩ | ⟨h, -⟩ <;> simp [h]
 have hlvl : lvl 0 (.mk 11 t n q [a, b]) = p := Q4o ho
 have hkt : ktc (.mk 11 t n q [a, b]) = parK (Q1n t a || decide (lvl 0 a < p)) (ktc a) ++ opK t :: parK (decide (lvl 0 b < nxt p)) (ktc b) := by
  rw [ktc, if_neg (by decide), if_neg (by decide), (Q5d ho).1, (Q5d ho).2]
 have hopn : opn (.mk 11 t n q [a, b]) = (decide (nxt p ≤ lvl 0 b) && opn b) := by rw [opn, if_neg (by decide), (Q5d ho).2]; simp
 have core : ∀ f lv i c B, Tl U i (ktc (.mk 11 t n q [a, b]) ++ c :: B) → Qu (nxt p) c → (opn (.mk 11 t n q [a, b]) = true → Qu 0 c) →
   SP U (R U f (nxt p)) (opsL p) lv i (.mk 11 t n q [a, b]) (i + (ktc (.mk 11 t n q [a, b])).length) := by
  intro f lv i c B h0 hs hop
  rw [hkt, List.append_assoc, List.cons_append] at h0
  have h1 := Q07 h0
  obtain ⟨d, K, hdK⟩ := Q3e (A := parK (decide (lvl 0 b < nxt p)) (ktc b)) (c := c) (B := B)
  have hl : SP U (R U f (nxt p)) (opsL p) lv i a (i + (parK (Q1n t a || decide (lvl 0 a < p)) (ktc a)).length) := by
   cases hbl : (Q1n t a || decide (lvl 0 a < p)) with
   | true =>
    rw [hbl] at h0
    exact Q28 (operC (b := true) ha.1 (Q78 hp') (fun h => by cases h) h0 (Qfi hp) (fun h => by cases h) f lv)
   | false =>
    rw [hbl] at h0
    simp only [Bool.or_eq_false_iff, decide_eq_false_iff_not] at hbl
    refine ha.2 p f lv i _ _ hp' (by omega) h0 (Qfi hp) (fun h => ?_)
    rcases hp with ⟨-, rfl⟩ | ⟨-, rfl⟩ | ⟨rfl, -⟩
    ·have := hbl.1; unfold Q1n at this; rw [h] at this; simp at this
    ·have := hbl.1; unfold Q1n at this; rw [h] at this; simp at this
    ·rw [Q9j a hoa (by omega)] at h; cases h
  have h1' := h1
  rw [hdK] at h1'
  have hkd : ∃ kd : Int, opK t = (kd, t) ∧ (kd = 2 ∨ kd = 0) := ⟨if t ∈ cmps ∨ t ∈ sums then 2 else 0, rfl, by split <;> simp⟩
  obtain ⟨kd, hk1, hk2⟩ := hkd
  rw [hk1] at h1'
  have hr := operC (b := decide (lvl 0 b < nxt p)) hb (Q78 hp') (fun h => by simpa using h) (Qn h1) hs (fun h ho' => hop (by rw [hopn, ho']; simpa using h)) f lv
  have := Qa3 (p := q) hl h1' hk2 (by rcases hp with ⟨rfl, rfl⟩ | ⟨rfl, rfl⟩ | ⟨rfl, h⟩ <;> simp [opsL]; simpa using h) hr
  rw [hkt, hn]
  have e : i + (parK (Q1n t a || decide (lvl 0 a < p)) (ktc a) ++ opK t :: parK (decide (lvl 0 b < nxt p)) (ktc b)).length = i + (parK (Q1n t a || decide (lvl 0 a < p)) (ktc a)).length + 1 + (parK (decide (lvl 0 b < nxt p)) (ktc b)).length := by
   simp only [List.length_append, List.length_cons]; omega
  rw [e]
  exact this
 have rdp : ∀ f lv i c B, Tl U i (ktc (.mk 11 t n q [a, b]) ++ c :: B) → Qu p c → (opn (.mk 11 t n q [a, b]) = true → Qu 0 c) → DN (.mk 11 t n q [a, b]) (i + (ktc (.mk 11 t n q [a, b])).length) (R U f p lv i) := by
  intro f lv i c B h0 hs hop
  cases f with
  | zero => trivial
  | succ f =>
   have hs' : Qu (nxt p) c := hs.le (Qb1 hp') (Q78 hp') (by rcases hp' with rfl | rfl | rfl <;> (unfold nxt; simp))
   have h1 := Q3j (core f lv i c B h0 hs' hop) (noOp.isW (Q07 h0) (hs _ (by rcases hp' with rfl | rfl | rfl <;> simp [goC, opsL])))
   rcases hp' with rfl | rfl | rfl <;> exact h1
 have hrd : RdC U (.mk 11 t n q [a, b]) := by
  intro m f lv i c B hm hle h0 hs hop
  rw [hlvl] at hle
  refine upC (Qb1 hp') hm hle (fun f lv => rdp f lv i c B h0 (hs.le hm (Qb1 hp') hle) hop) (fun h4 => ?_) (Q07 h0) hs f lv
  obtain rfl : p = 4 := by omega
  rw [hkt] at h0
  obtain ⟨d, A, e, hd⟩ := Qch (x := a) (b := Q1n t a || decide (lvl 0 a < 4)) (fun hb => Q4b a hoa (by
   simp only [Bool.or_eq_false_iff, decide_eq_false_iff_not] at hb; omega))
  rw [e] at h0
  exact ⟨d, _, h0, hd⟩
 refine ⟨hrd, fun p' f lv i c B hp1 hle h0 hs hop => ?_⟩
 rw [hlvl] at hle
 by_cases e : p' = p
 ·subst e; exact core f lv i c B h0 hs hop
 ·exact Q28 (hrd (nxt p') f lv i c B (Q78 hp1) (by rw [hlvl]; rcases hp1 with rfl | rfl | rfl <;> rcases hp' with rfl | rfl | rfl <;> first | omega | (unfold nxt; simp)) h0 hs hop)
end
end
end Go.Proofs.YtplbfmcgddnkeaaGreatDoor
