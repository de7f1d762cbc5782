/- Plain: vectors over the field of two elements, spans, independent lists, ranks. No program in sight. -/
namespace Go.Proofs.Ytehjnlphfaojcaa
abbrev Vec := Int → Bool
def vadd (x y : Vec) : Vec := fun i => xor (x i) (y i)
def vz : Vec := fun _ => false
theorem vadd_comm (x y : Vec) : vadd x y = vadd y x := by funext i; simp [vadd, Bool.xor_comm]
theorem vadd_assoc (x y z : Vec) : vadd (vadd x y) z = vadd x (vadd y z) := by funext i; simp [vadd]
theorem vadd_self (x : Vec) : vadd x x = vz := by funext i; simp [vadd, vz]
theorem vadd_vz (x : Vec) : vadd x vz = x := by funext i; simp [vadd, vz]
theorem vz_vadd (x : Vec) : vadd vz x = x := by funext i; simp [vadd, vz]
theorem vadd_back (x y : Vec) : vadd (vadd x y) y = x := by rw [vadd_assoc, vadd_self, vadd_vz]
theorem vadd_back' (x y : Vec) : vadd x (vadd x y) = y := by rw [← vadd_assoc, vadd_self, vz_vadd]
inductive InSpan (L : List Vec) : Vec → Prop
  | zero : InSpan L vz
  | add {v l : Vec} : InSpan L v → l ∈ L → InSpan L (vadd v l)
theorem InSpan.mem {L : List Vec} {l : Vec} (h : l ∈ L) : InSpan L l := by
  have := InSpan.add (.zero (L := L)) h
  rwa [vz_vadd] at this
theorem InSpan.sum {L : List Vec} {v u : Vec} (h : InSpan L v) (k : InSpan L u) : InSpan L (vadd v u) := by
  induction k with
  | zero => rwa [vadd_vz]
  | add _ hl ih => rw [← vadd_assoc]; exact .add ih hl
theorem InSpan.into {L M : List Vec} (h : ∀ l ∈ L, InSpan M l) {v : Vec} (k : InSpan L v) : InSpan M v := by
  induction k with
  | zero => exact .zero
  | add _ hl ih => exact ih.sum (h _ hl)
theorem InSpan.sub {L M : List Vec} (h : ∀ l ∈ L, l ∈ M) {v : Vec} (k : InSpan L v) : InSpan M v := k.into fun l hl => .mem (h l hl)
theorem InSpan.nil {v : Vec} (h : InSpan [] v) : v = vz := by
  induction h with
  | zero => rfl
  | add _ hl _ => cases hl
theorem InSpan.head {x : Vec} {M : List Vec} {v : Vec} (h : InSpan (x :: M) v) : InSpan M v ∨ InSpan M (vadd v x) := by
  induction h with
  | zero => exact .inl .zero
  | @add v l _ hl ih =>
    rcases List.mem_cons.1 hl with rfl | hl
    · rcases ih with ih | ih
      · right; rwa [vadd_back]
      · left; exact ih
    · rcases ih with ih | ih
      · left; exact ih.add hl
      · right
        rw [vadd_assoc, vadd_comm l x, ← vadd_assoc]
        exact ih.add hl
theorem InSpan.bit {L : List Vec} {i : Int} (h : ∀ l ∈ L, l i = false) {v : Vec} (k : InSpan L v) : v i = false := by
  induction k with
  | zero => rfl
  | add _ hl ih => simp [vadd, ih, h _ hl]
def Lin (f : Vec → Vec) : Prop := ∀ x y, f (vadd x y) = vadd (f x) (f y)
theorem Lin.vz {f : Vec → Vec} (h : Lin f) : f vz = vz := by
  have := h Go.Proofs.Ytehjnlphfaojcaa.vz Go.Proofs.Ytehjnlphfaojcaa.vz
  rw [vadd_self, vadd_self] at this
  exact this
theorem InSpan.image {f : Vec → Vec} (hf : Lin f) {L : List Vec} {v : Vec} (h : InSpan L v) : InSpan (L.map f) (f v) := by
  induction h with
  | zero => rw [hf.vz]; exact .zero
  | add _ hl ih => rw [hf]; exact ih.add (List.mem_map_of_mem hl)
theorem lin_id : Lin fun x => x := fun _ _ => rfl
def Indep : List Vec → Prop
  | [] => True
  | v :: L => ¬ InSpan L v ∧ Indep L
/-- One vector of what the images span is left out at the cost of one vector. -/
theorem elim_one {f : Vec → Vec} (hf : Lin f) {x : Vec} {M : List Vec} : ∀ {L : List Vec}, Indep L → (∀ l ∈ L, InSpan (x :: M) (f l)) →
    (∀ l ∈ L, InSpan M (f l)) ∨ ∃ l0 L1, InSpan L l0 ∧ InSpan M (vadd (f l0) x) ∧ Indep L1 ∧ (∀ l ∈ L1, InSpan L l) ∧ (∀ l ∈ L1, InSpan M (f l)) ∧ L.length = L1.length + 1
  | [], _, _ => .inl fun _ h => by cases h
  | l :: T, ⟨hl, hT⟩, h => by
    have up : ∀ {v}, InSpan T v → InSpan (l :: T) v := fun k => k.sub fun _ => List.mem_cons_of_mem _
    rcases elim_one hf hT (fun y hy => h y (List.mem_cons_of_mem _ hy)) with ha | ⟨l0, L1, h0, hx, hI, hs, hM, hlen⟩
    · rcases (h l (List.mem_cons_self ..)).head with hh | hh
      · exact .inl fun y hy => (List.mem_cons.1 hy).elim (fun e => e ▸ hh) (ha y)
      · exact .inr ⟨l, T, .mem (List.mem_cons_self ..), hh, hT, fun y hy => up (.mem hy), ha, rfl⟩
    · right
      rcases (h l (List.mem_cons_self ..)).head with hh | hh
      · refine ⟨l0, l :: L1, up h0, hx, ⟨fun k => hl (k.into hs), hI⟩, ?_, ?_, by simp [hlen]⟩
        · intro y hy; rcases List.mem_cons.1 hy with rfl | hy
          · exact .mem (List.mem_cons_self ..)
          · exact up (hs y hy)
        · intro y hy; rcases List.mem_cons.1 hy with rfl | hy
          · exact hh
          · exact hM y hy
      · refine ⟨l0, vadd l l0 :: L1, up h0, hx, ⟨fun k => hl ?_, hI⟩, ?_, ?_, by simp [hlen]⟩
        · have := (k.into hs).sum h0
          rwa [vadd_back] at this
        · intro y hy; rcases List.mem_cons.1 hy with rfl | hy
          · exact (InSpan.mem (List.mem_cons_self ..)).sum (up h0)
          · exact up (hs y hy)
        · intro y hy; rcases List.mem_cons.1 hy with rfl | hy
          · rw [hf]
            have := hh.sum hx
            rwa [vadd_assoc, vadd_comm (f l0) x, vadd_back'] at this
          · exact hM y hy
/-- Of k independent vectors whose images m vectors span, at least k - m independent ones go to nothing. -/
theorem kernel_many {f : Vec → Vec} (hf : Lin f) : ∀ {M L : List Vec}, Indep L → (∀ l ∈ L, InSpan M (f l)) →
    ∃ K, Indep K ∧ (∀ l ∈ K, InSpan L l) ∧ (∀ l ∈ K, f l = vz) ∧ L.length ≤ K.length + M.length
  | [], L, hI, h => ⟨L, hI, fun l hl => .mem hl, fun l hl => (h l hl).nil, by simp⟩
  | x :: M, L, hI, h => by
    rcases elim_one hf hI h with ha | ⟨_, L1, _, _, hI1, hs, hM, hlen⟩
    · obtain ⟨K, k1, k2, k3, k4⟩ := kernel_many hf hI ha
      exact ⟨K, k1, k2, k3, by simp only [List.length_cons]; omega⟩
    · obtain ⟨K, k1, k2, k3, k4⟩ := kernel_many hf hI1 hM
      exact ⟨K, k1, fun l hl => (k2 l hl).into hs, k3, by simp only [List.length_cons]; omega⟩
theorem indep_le {L M : List Vec} (hI : Indep L) (h : ∀ l ∈ L, InSpan M l) : L.length ≤ M.length := by
  obtain ⟨K, k1, k2, k3, k4⟩ := kernel_many lin_id hI h
  match K, k1, k3 with
  | [], _, _ => simpa using k4
  | v :: K, ⟨hv, _⟩, k3 => exact (hv (by rw [k3 v (List.mem_cons_self ..)]; exact .zero)).elim
/-- The list is a basis of the rows' span. -/
structure Basis (R L : List Vec) : Prop where
  ind : Indep L
  rows : ∀ r ∈ R, InSpan L r
  back : ∀ l ∈ L, InSpan R l
theorem indep_join {f : Vec → Vec} (hf : Lin f) {K : List Vec} (hK : Indep K) (hz : ∀ l ∈ K, f l = vz) : ∀ {X : List Vec}, Indep (X.map f) → Indep (X ++ K)
  | [], _ => hK
  | x :: X, ⟨hx, hX⟩ => ⟨fun k => hx (by
      have := k.image hf
      refine this.into fun l hl => ?_
      replace hl : l ∈ (X ++ K).map f := hl
      rw [List.map_append, List.mem_append] at hl
      rcases hl with hl | hl
      · exact .mem hl
      · obtain ⟨y, hy, rfl⟩ := List.mem_map.1 hl
        rw [hz y hy]; exact .zero), indep_join hf hK hz hX⟩
/-- Vectors that are images of vectors of a span, all at once. -/
theorem preimages {f : Vec → Vec} {U : List Vec} : ∀ {L : List Vec}, (∀ l ∈ L, ∃ x, InSpan U x ∧ f x = l) → ∃ X : List Vec, X.map f = L ∧ ∀ x ∈ X, InSpan U x
  | [], _ => ⟨[], rfl, fun _ h => by cases h⟩
  | l :: L, h => by
    obtain ⟨x, hx, e⟩ := h l (List.mem_cons_self ..)
    obtain ⟨X, hX, hs⟩ := preimages (fun l hl => h l (List.mem_cons_of_mem _ hl))
    exact ⟨x :: X, by simp [e, hX], fun y hy => by exact (List.mem_cons.1 hy).elim (fun e => e ▸ hx) (hs y)⟩
theorem preimage {f : Vec → Vec} (hf : Lin f) {U : List Vec} {v : Vec} (h : InSpan (U.map f) v) : ∃ x, InSpan U x ∧ f x = v := by
  induction h with
  | zero => exact ⟨vz, .zero, hf.vz⟩
  | add _ hl ih =>
    obtain ⟨x, hx, rfl⟩ := ih
    obtain ⟨y, hy, rfl⟩ := List.mem_map.1 hl
    exact ⟨vadd x y, hx.add hy, hf _ _⟩
/-- The ranks of two matrices and of their product: U are the unit vectors, f is the second matrix. -/
theorem ranks {f : Vec → Vec} (hf : Lin f) {U A B LA LB LC : List Vec} (hA : Basis A LA) (hU : ∀ r ∈ A, InSpan U r) (hB : Basis B LB) (eB : B = U.map f) (hC : Basis (A.map f) LC) :
    LC.length ≤ LA.length ∧ LC.length ≤ LB.length ∧ LA.length + LB.length ≤ LC.length + U.length := by
  subst eB
  refine ⟨?_, ?_, ?_⟩
  · have := indep_le (M := LA.map f) hC.ind fun l hl => (hC.back l hl).into fun r hr => by
      obtain ⟨a, ha, rfl⟩ := List.mem_map.1 hr
      exact (hA.rows a ha).image hf
    simpa using this
  · exact indep_le hC.ind fun l hl => (hC.back l hl).into fun r hr => by
      obtain ⟨a, ha, rfl⟩ := List.mem_map.1 hr
      exact ((hU a ha).image hf).into hB.rows
  · obtain ⟨K, k1, k2, k3, k4⟩ := kernel_many hf (M := LC) hA.ind fun l hl => ((hA.back l hl).image hf).into hC.rows
    obtain ⟨X, rfl, hX⟩ := preimages (f := f) (U := U) (L := LB) fun l hl => preimage hf (hB.back l hl)
    have := indep_le (M := U) (indep_join hf k1 k3 hB.ind) fun l hl => by
      rcases List.mem_append.1 hl with hl | hl
      · exact hX l hl
      · exact (k2 l hl).into fun l hl => (hA.back l hl).into hU
    simp only [List.length_append, List.length_map] at this ⊢
    omega
/-- Rows with a place each of their own are independent. -/
theorem indep_pivots : ∀ {L : List (Int × Vec)}, (∀ x ∈ L, x.2 x.1 = true) → L.Pairwise (fun x y => y.2 x.1 = false) → Indep (L.map (·.2))
  | [], _, _ => trivial
  | x :: L, h, hp => by
    rw [List.pairwise_cons] at hp
    refine ⟨fun k => ?_, indep_pivots (fun y hy => h y (List.mem_cons_of_mem _ hy)) hp.2⟩
    have := k.bit (i := x.1) fun l hl => by
      obtain ⟨y, hy, rfl⟩ := List.mem_map.1 hl
      exact hp.1 y hy
    replace this : x.2 x.1 = false := this
    rw [h x (List.mem_cons_self ..)] at this
    cases this
end Go.Proofs.Ytehjnlphfaojcaa
