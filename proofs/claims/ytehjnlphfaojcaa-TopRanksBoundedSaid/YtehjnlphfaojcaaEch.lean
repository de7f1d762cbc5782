/- Plain: rows as ascending lists, their sums, the echelon form and its rank. No program in sight. -/
import Derived.Test.YtehjnlphfaojcaaLin
namespace Go.Proofs.Ytehjnlphfaojcaa
/-- The sum of two ascending lists: what one of them alone has. -/
def ssum : List Int → List Int → List Int
  | [], b => b
  | a, [] => a
  | x :: a, y :: b => if x < y then x :: ssum a (y :: b) else if y < x then y :: ssum (x :: a) b else ssum a b
termination_by a b => a.length + b.length
abbrev Srt (a : List Int) : Prop := a.Pairwise (· < ·)
def vb (a : List Int) : Vec := fun i => decide (i ∈ a)
theorem ssum_nil_right (a : List Int) : ssum a [] = a := by cases a <;> simp [ssum]
theorem ssum_nil_left (a : List Int) : ssum [] a = a := by simp [ssum]
theorem ssum_lt {x y : Int} {a b : List Int} (h : x < y) : ssum (x :: a) (y :: b) = x :: ssum a (y :: b) := by rw [ssum, if_pos h]
theorem ssum_gt {x y : Int} {a b : List Int} (h : y < x) : ssum (x :: a) (y :: b) = y :: ssum (x :: a) b := by rw [ssum, if_neg (by omega), if_pos h]
theorem ssum_eq {x y : Int} {a b : List Int} (h : x = y) : ssum (x :: a) (y :: b) = ssum a b := by rw [ssum, if_neg (by omega), if_neg (by omega)]
theorem mem_ssum {i : Int} : ∀ {a b : List Int}, i ∈ ssum a b → i ∈ a ∨ i ∈ b
  | [], b => by simp [ssum]
  | x :: a, [] => by simp [ssum]
  | x :: a, y :: b => by
    rw [ssum]
    split
    · intro h
      rcases List.mem_cons.1 h with rfl | h
      · simp
      · rcases mem_ssum h with h | h
        · exact .inl (List.mem_cons_of_mem _ h)
        · exact .inr h
    · split
      · intro h
        rcases List.mem_cons.1 h with rfl | h
        · simp
        · rcases mem_ssum h with h | h
          · exact .inl h
          · exact .inr (List.mem_cons_of_mem _ h)
      · intro h
        rcases mem_ssum h with h | h
        · exact .inl (List.mem_cons_of_mem _ h)
        · exact .inr (List.mem_cons_of_mem _ h)
termination_by a b => a.length + b.length
theorem srt_ssum : ∀ {a b : List Int}, Srt a → Srt b → Srt (ssum a b)
  | [], b => by simp [ssum]
  | x :: a, [] => by simp [ssum]
  | x :: a, y :: b => by
    intro ha hb
    have ha' := ha; have hb' := hb
    rw [Srt, List.pairwise_cons] at ha' hb'
    rw [ssum]
    split
    · rename_i h
      refine List.pairwise_cons.2 ⟨fun z hz => ?_, srt_ssum ha'.2 hb⟩
      rcases mem_ssum hz with hz | hz
      · exact ha'.1 z hz
      · rcases List.mem_cons.1 hz with rfl | hz
        · exact h
        · have := hb'.1 z hz; omega
    · split
      · rename_i h
        refine List.pairwise_cons.2 ⟨fun z hz => ?_, srt_ssum ha hb'.2⟩
        rcases mem_ssum hz with hz | hz
        · rcases List.mem_cons.1 hz with rfl | hz
          · exact h
          · have := ha'.1 z hz; omega
        · exact hb'.1 z hz
      · exact srt_ssum ha'.2 hb'.2
termination_by a b => a.length + b.length
theorem mem_ssum_iff : ∀ {a b : List Int}, Srt a → Srt b → ∀ i, i ∈ ssum a b ↔ (i ∈ a ∧ i ∉ b ∨ i ∉ a ∧ i ∈ b)
  | [], b => by simp [ssum]
  | x :: a, [] => by simp [ssum]
  | x :: a, y :: b => by
    intro ha hb i
    have ha' := ha; have hb' := hb
    rw [Srt, List.pairwise_cons] at ha' hb'
    rw [ssum]
    split
    · rename_i h
      rw [List.mem_cons, mem_ssum_iff ha'.2 hb, List.mem_cons (a := i) (b := x)]
      have h1 : x ∉ y :: b := fun hx => by
        rcases List.mem_cons.1 hx with rfl | hx
        · omega
        · have := hb'.1 x hx; omega
      have h2 : x ∉ a := fun hx => by have := ha'.1 x hx; omega
      by_cases e : i = x
      · subst e; simp [h1]
      · simp [e]
    · split
      · rename_i h
        rw [List.mem_cons, mem_ssum_iff ha hb'.2, List.mem_cons (a := i) (b := y)]
        have h1 : y ∉ x :: a := fun hx => by
          rcases List.mem_cons.1 hx with rfl | hx
          · omega
          · have := ha'.1 y hx; omega
        have h2 : y ∉ b := fun hx => by have := hb'.1 y hx; omega
        by_cases e : i = y
        · subst e; simp [h1]
        · simp [e]
      · obtain rfl : x = y := by omega
        rw [mem_ssum_iff ha'.2 hb'.2, List.mem_cons, List.mem_cons]
        have h1 : x ∉ a := fun hx => by have := ha'.1 x hx; omega
        have h2 : x ∉ b := fun hx => by have := hb'.1 x hx; omega
        by_cases e : i = x
        · subst e; simp [h1, h2]
        · simp [e]
termination_by a b => a.length + b.length
theorem vb_ssum {a b : List Int} (ha : Srt a) (hb : Srt b) : vb (ssum a b) = vadd (vb a) (vb b) := by
  funext i
  have := mem_ssum_iff ha hb i
  simp only [vb, vadd]
  by_cases h1 : i ∈ a <;> by_cases h2 : i ∈ b <;> simp_all
theorem vb_nil : vb [] = vz := by funext i; simp [vb, vz]
theorem nil_of_vb {a : List Int} (h : vb a = vz) : a = [] := by
  cases a with
  | nil => rfl
  | cons x a => have := congrFun h x; simp [vb, vz] at this
/-- Two ascending lists with the same members are one. -/
theorem srt_ext : ∀ {a b : List Int}, Srt a → Srt b → (∀ i, i ∈ a ↔ i ∈ b) → a = b
  | [], [], _, _, _ => rfl
  | [], y :: b, _, _, h => by have := (h y).2 (List.mem_cons_self ..); cases this
  | x :: a, [], _, _, h => by have := (h x).1 (List.mem_cons_self ..); cases this
  | x :: a, y :: b, ha, hb, h => by
    have ha' := ha; have hb' := hb
    rw [Srt, List.pairwise_cons] at ha' hb'
    have e : x = y := by
      rcases List.mem_cons.1 ((h x).1 (List.mem_cons_self ..)) with e | e
      · exact e
      · rcases List.mem_cons.1 ((h y).2 (List.mem_cons_self ..)) with e' | e'
        · exact e'.symm
        · have := hb'.1 x e; have := ha'.1 y e'; omega
    subst e
    rw [srt_ext ha'.2 hb'.2 fun i => ?_]
    have h1 : x ∉ a := fun hx => by have := ha'.1 x hx; omega
    have h2 : x ∉ b := fun hx => by have := hb'.1 x hx; omega
    have := h i
    rw [List.mem_cons, List.mem_cons] at this
    by_cases e : i = x
    · subst e; simp [h1, h2]
    · simpa [e] using this
/-- A row, and the rows of the matrix whose sum it is. -/
abbrev Line := List Int × List Int
def ladd (x y : Line) : Line := (ssum x.1 y.1, ssum x.2 y.2)
def look (lead : List (Int × Line)) (c : Int) : Option Line := (lead.find? (fun p => p.1 == c)).map (·.2)
/-- The line is reduced by the leading ones, from position i on. -/
def red (lead : List (Int × Line)) : Nat → Line → Nat → Line
  | 0, x, _ => x
  | k + 1, x, i => match x.1[i]? with
    | none => x
    | some c => match look lead c with
      | none => red lead k x (i + 1)
      | some l => red lead k (ladd x l) i
def upd (lead : List (Int × Line)) (c : Int) (x : Line) : List (Int × Line) := lead.map fun p => if c ∈ p.2.1 then (p.1, ladd p.2 x) else p
/-- One row more. -/
def echStep (n : Nat) (s : List (Int × Line) × List (List Int)) (i : Nat) (row : List Int) : List (Int × Line) × List (List Int) :=
  match red s.1 (n + 1) (row, [(i : Int)]) 0 with
  | ([], f) => (s.1, s.2 ++ [f])
  | (c :: r, f) => (upd s.1 c (c :: r, f) ++ [(c, (c :: r, f))], s.2)
def ech (n : Nat) (s : List (Int × Line) × List (List Int)) : Nat → List (List Int) → List (Int × Line) × List (List Int)
  | _, [] => s
  | i, row :: rows => ech n (echStep n s i row) (i + 1) rows
/-- A row of a matrix of n columns. -/
structure Row (n : Nat) (a : List Int) : Prop where
  srt : Srt a
  rng : ∀ i ∈ a, 0 ≤ i ∧ i < n
theorem Row.sum {n : Nat} {a b : List Int} (ha : Row n a) (hb : Row n b) : Row n (ssum a b) :=
  ⟨srt_ssum ha.srt hb.srt, fun i hi => (mem_ssum hi).elim (ha.rng i) (hb.rng i)⟩
theorem Row.len_aux : ∀ {a : List Int} {k n : Int}, Srt a → (∀ i ∈ a, k ≤ i ∧ i < n) → (a.length : Int) ≤ max 0 (n - k)
  | [], k, n, _, _ => by simp; omega
  | x :: a, k, n, hs, hr => by
    have hs' := List.pairwise_cons.1 hs
    have h := Row.len_aux (k := x + 1) (n := n) hs'.2 fun i hi => ⟨by have := hs'.1 i hi; omega, (hr i (List.mem_cons_of_mem _ hi)).2⟩
    have := hr x (List.mem_cons_self ..)
    simp only [List.length_cons]
    omega
theorem Row.len {n : Nat} {a : List Int} (h : Row n a) : a.length ≤ n := by
  have := Row.len_aux (k := 0) h.srt h.rng
  omega
theorem Row.nil {n : Nat} : Row n [] := ⟨.nil, fun _ h => by cases h⟩
theorem Row.one {n : Nat} {c : Int} (h : 0 ≤ c ∧ c < n) : Row n [c] := ⟨by simp [Srt], fun i hi => by rw [List.mem_singleton] at hi; exact hi ▸ h⟩
/-- The leading lines: each begins with its own place, which no other has. R: the rows that are gone through. -/
structure Leads (n m : Nat) (lead : List (Int × Line)) : Prop where
  row : ∀ p ∈ lead, Row n p.2.1
  frm : ∀ p ∈ lead, Row m p.2.2
  head : ∀ p ∈ lead, ∃ r, p.2.1 = p.1 :: r
  apart : lead.Pairwise fun p q => p.1 ∉ q.2.1 ∧ q.1 ∉ p.2.1
theorem Leads.keys {n m : Nat} {lead : List (Int × Line)} (h : Leads n m lead) : ∀ p ∈ lead, ∀ q ∈ lead, p.1 ∈ q.2.1 → p = q := by
  have := h.apart
  have hh := h.head
  clear h
  induction lead with
  | nil => intro p hp; cases hp
  | cons x lead ih =>
    rw [List.pairwise_cons] at this
    intro p hp q hq hm
    rcases List.mem_cons.1 hp with rfl | hp
    · rcases List.mem_cons.1 hq with rfl | hq
      · rfl
      · exact ((this.1 q hq).1 hm).elim
    · rcases List.mem_cons.1 hq with e | hq
      · subst e; exact ((this.1 p (by assumption)).2 hm).elim
      · exact ih this.2 (fun p hp => hh p (List.mem_cons_of_mem _ hp)) p hp q hq hm
theorem look_some {lead : List (Int × Line)} {c : Int} {l : Line} (h : look lead c = some l) : (c, l) ∈ lead := by
  rw [look, Option.map_eq_some_iff] at h
  obtain ⟨⟨a, b⟩, h1, h2⟩ := h
  have := List.mem_of_find?_eq_some h1
  have e := List.find?_some h1
  simp only [beq_iff_eq] at e h2
  subst e h2
  exact this
theorem look_none {lead : List (Int × Line)} {c : Int} (h : look lead c = none) : ∀ p ∈ lead, p.1 ≠ c := by
  rw [look, Option.map_eq_none_iff, List.find?_eq_none] at h
  intro p hp e
  exact h p hp (by simp [e])
/-- What is below a list's place i does not hold of a sum with a list that begins behind it. -/
theorem ssum_take : ∀ {i : Nat} {a : List Int} {c : Int} {r : List Int}, Srt a → a[i]? = some c → Srt (c :: r) → (ssum a (c :: r)).take i = a.take i ∧ ∀ d, (ssum a (c :: r))[i]? = some d → c < d
  | 0, [], _, _, _, h, _ => by simp at h
  | 0, x :: a, c, r, ha, h, hb => by
    simp only [List.getElem?_cons_zero, Option.some.injEq] at h
    subst h
    refine ⟨rfl, fun d hd => ?_⟩
    rw [ssum, if_neg (by omega), if_neg (by omega)] at hd
    have hm := List.mem_of_getElem? hd
    rw [Srt, List.pairwise_cons] at ha hb
    exact (mem_ssum hm).elim (ha.1 d) (hb.1 d)
  | i + 1, [], _, _, _, h, _ => by simp at h
  | i + 1, x :: a, c, r, ha, h, hb => by
    rw [List.getElem?_cons_succ] at h
    have hx : x < c := (List.pairwise_cons.1 ha).1 c (List.mem_of_getElem? h)
    have ih := ssum_take (List.pairwise_cons.1 ha).2 h hb
    rw [ssum, if_pos hx, List.take_succ_cons, List.take_succ_cons, ih.1]
    exact ⟨rfl, fun d hd => ih.2 d (by simpa using hd)⟩
/-- A reduced line: it has no leading place, and differs from the line by leading lines. -/
theorem red_ok {n m : Nat} {lead : List (Int × Line)} (hL : Leads n m lead) : ∀ (k : Nat) (x : Line) (i : Nat), Row n x.1 → Row m x.2 → (∀ c, x.1[i]? = some c → (n : Int) - c < k) → 0 < k →
    (∀ c ∈ x.1.take i, ∀ p ∈ lead, p.1 ≠ c) →
    Row n (red lead k x i).1 ∧ Row m (red lead k x i).2 ∧ (∀ c ∈ (red lead k x i).1, ∀ p ∈ lead, p.1 ≠ c) ∧ InSpan (lead.map fun p => vb p.2.1) (vadd (vb (red lead k x i).1) (vb x.1))
  | 0, _, _, _, _, _, h, _ => by omega
  | k + 1, x, i, hx, hf, hk, _, ht => by
    rw [red]
    cases hc : x.1[i]? with
    | none =>
      refine ⟨hx, hf, fun c hc' => ?_, ?_⟩
      · rw [List.getElem?_eq_none_iff] at hc
        rw [List.take_of_length_le hc] at ht
        exact ht c hc'
      · show InSpan _ (vadd (vb x.1) (vb x.1))
        rw [vadd_self]; exact .zero
    | some c =>
      have hcn := hx.rng c (List.mem_of_getElem? hc)
      have hlt := hk c hc
      have hilt : i < x.1.length := (List.getElem?_eq_some_iff.1 hc).1
      dsimp only
      cases hl : look lead c with
      | none =>
        refine red_ok hL k x (i + 1) hx hf (fun d hd => ?_) (by omega) (fun d hd => ?_)
        · have : c < d := by
            have h1 := (List.getElem?_eq_some_iff.1 hc)
            have h2 := (List.getElem?_eq_some_iff.1 hd)
            have := List.pairwise_iff_getElem.1 hx.srt i (i + 1) h1.1 h2.1 (by omega)
            rw [h1.2, h2.2] at this
            exact this
          omega
        · rw [List.take_add_one, hc] at hd
          rcases List.mem_append.1 hd with hd | hd
          · exact ht d hd
          · simp at hd; subst hd; exact look_none hl
      | some l =>
        have hm := look_some hl
        have hr := hL.row _ hm
        obtain ⟨r, er⟩ := hL.head _ hm
        have hst := ssum_take hx.srt hc (er ▸ hr.srt : Srt (c :: r))
        have e1 : (ladd x l).1 = ssum x.1 (c :: r) := by show ssum x.1 l.1 = _; rw [er]
        obtain ⟨a1, a2, a3, a4⟩ := red_ok hL k (ladd x l) i (hx.sum hr) (hf.sum (hL.frm _ hm)) (fun d hd => by
            rw [e1] at hd; have := hst.2 d hd; omega) (by omega) (fun d hd => by rw [e1, hst.1] at hd; exact ht d hd)
        refine ⟨a1, a2, a3, ?_⟩
        have : vb (ladd x l).1 = vadd (vb x.1) (vb l.1) := vb_ssum hx.srt hr.srt
        rw [this] at a4
        have := a4.add (List.mem_map_of_mem (f := fun p : Int × Line => vb p.2.1) hm)
        rwa [vadd_assoc, vadd_back] at this
/-- The state behind some rows R. -/
structure Ech (n m : Nat) (R : List (List Int)) (lead : List (Int × Line)) : Prop where
  leads : Leads n m lead
  rows : ∀ r ∈ R, InSpan (lead.map fun p => vb p.2.1) (vb r)
  back : ∀ p ∈ lead, InSpan (R.map vb) (vb p.2.1)
theorem Ech.nil {n m : Nat} : Ech n m [] [] := ⟨⟨by simp, by simp, by simp, .nil⟩, by simp, by simp⟩
theorem upd_ok {n m : Nat} {lead : List (Int × Line)} (hL : Leads n m lead) {c : Int} {r f : List Int} (hx : Row n (c :: r)) (hf : Row m f) (hk : ∀ d ∈ c :: r, ∀ p ∈ lead, p.1 ≠ d) :
    Leads n m (upd lead c (c :: r, f) ++ [(c, (c :: r, f))]) := by
  have hout : ∀ p ∈ lead, p.1 ∉ c :: r := fun p hp h => hk _ h p hp rfl
  have mm : ∀ q ∈ upd lead c (c :: r, f), ∃ p ∈ lead, q.1 = p.1 ∧ (q.2 = p.2 ∧ c ∉ p.2.1 ∨ q.2 = ladd p.2 (c :: r, f) ∧ c ∈ p.2.1) := by
    intro q hq
    obtain ⟨p, hp, rfl⟩ := List.mem_map.1 hq
    refine ⟨p, hp, ?_⟩
    by_cases h : c ∈ p.2.1
    · rw [if_pos h]; exact ⟨rfl, .inr ⟨rfl, h⟩⟩
    · rw [if_neg h]; exact ⟨rfl, .inl ⟨rfl, h⟩⟩
  have nc : ∀ q ∈ upd lead c (c :: r, f), q.1 ∉ c :: r ∧ c ∉ q.2.1 := by
    intro q hq
    obtain ⟨p, hp, e, h | h⟩ := mm q hq
    · rw [e, h.1]; exact ⟨hout p hp, h.2⟩
    · rw [e, h.1]
      refine ⟨hout p hp, fun hc => ?_⟩
      have := (mem_ssum_iff (hL.row p hp).srt hx.srt c).1 hc
      have h2 := h.2
      simp_all
  refine ⟨?_, ?_, ?_, ?_⟩
  · intro q hq
    rcases List.mem_append.1 hq with hq | hq
    · obtain ⟨p, hp, e, h | h⟩ := mm q hq
      · rw [h.1]; exact hL.row p hp
      · rw [h.1]; exact (hL.row p hp).sum hx
    · rw [List.mem_singleton] at hq; subst hq; exact hx
  · intro q hq
    rcases List.mem_append.1 hq with hq | hq
    · obtain ⟨p, hp, e, h | h⟩ := mm q hq
      · rw [h.1]; exact hL.frm p hp
      · rw [h.1]; exact (hL.frm p hp).sum hf
    · rw [List.mem_singleton] at hq; subst hq; exact hf
  · intro q hq
    rcases List.mem_append.1 hq with hq | hq
    · obtain ⟨p, hp, e, h | h⟩ := mm q hq
      · rw [h.1, e]; exact hL.head p hp
      · obtain ⟨r', er⟩ := hL.head p hp
        have hc : p.1 < c := by
          have h2 := h.2
          rw [er] at h2
          rcases List.mem_cons.1 h2 with e' | h2
          · exact (hout p hp (by rw [← e']; exact List.mem_cons_self ..)).elim
          · have := (hL.row p hp).srt
            rw [er] at this
            exact (List.pairwise_cons.1 this).1 c h2
        rw [h.1, e]
        refine ⟨ssum r' (c :: r), ?_⟩
        show ssum p.2.1 (c :: r) = _
        rw [er, ssum, if_pos hc]
    · rw [List.mem_singleton] at hq; subst hq; exact ⟨r, rfl⟩
  · rw [List.pairwise_append]
    refine ⟨?_, by simp, fun a ha b hb => ?_⟩
    · rw [upd, List.pairwise_map]
      have hr := hL.row
      refine hL.apart.imp_of_mem ?_
      intro p q hp hq hpq
      have key : ∀ p ∈ lead, ∀ q ∈ lead, p.1 ∉ q.2.1 → p.1 ∉ (if c ∈ q.2.1 then (q.1, ladd q.2 (c :: r, f)) else q).2.1 := by
        intro p hp q hq h
        split
        · intro hm
          rcases mem_ssum hm with hm | hm
          · exact h hm
          · exact hout p hp hm
        · exact h
      have e : ∀ q : Int × Line, (if c ∈ q.2.1 then (q.1, ladd q.2 (c :: r, f)) else q).1 = q.1 := fun q => by split <;> rfl
      rw [e p, e q]
      exact ⟨key p hp q hq hpq.1, key q hq p hp hpq.2⟩
    · rw [List.mem_singleton] at hb; subst hb
      exact nc a ha
theorem Ech.step {n m : Nat} {R : List (List Int)} {lead : List (Int × Line)} (h : Ech n m R lead) {dep : List (List Int)} {i : Nat} {row : List Int} (hr : Row n row) (hi : i < m) :
    Ech n m (R ++ [row]) (echStep n (lead, dep) i row).1 := by
  have hk := red_ok h.leads (n + 1) (row, [(i : Int)]) 0 hr (Row.one ⟨by omega, by omega⟩) (fun c hc => by
    have := hr.rng c (List.mem_of_getElem? hc); omega) (by omega) (by simp)
  rw [echStep]
  obtain ⟨a1, a2, a3, a4⟩ := hk
  have dR : ∀ {v}, InSpan (R.map vb) v → InSpan ((R ++ [row]).map vb) v := fun k => k.sub fun l hl => by rw [List.map_append]; exact List.mem_append_left _ hl
  have dr : InSpan ((R ++ [row]).map vb) (vb row) := .mem (by simp)
  generalize red lead (n + 1) (row, [(i : Int)]) 0 = x at a1 a2 a3 a4
  obtain ⟨x, f⟩ := x
  cases x with
  | nil =>
    refine ⟨h.leads, fun r hr => ?_, fun p hp => dR (h.back p hp)⟩
    rcases List.mem_append.1 hr with hr | hr
    · exact h.rows r hr
    · rw [List.mem_singleton] at hr; subst hr
      have : vadd (vb []) (vb r) = vb r := by rw [vb_nil, vz_vadd]
      rw [← this]; exact a4
  | cons c r =>
    have hN := upd_ok h.leads a1 a2 a3
    have xin : InSpan ((upd lead c (c :: r, f) ++ [(c, (c :: r, f))]).map fun p => vb p.2.1) (vb (c :: r)) := .mem (by simp)
    have hold : ∀ l ∈ lead.map (fun p => vb p.2.1), InSpan ((upd lead c (c :: r, f) ++ [(c, (c :: r, f))]).map fun p => vb p.2.1) l := by
      intro l hl
      obtain ⟨p, hp, rfl⟩ := List.mem_map.1 hl
      by_cases hc : c ∈ p.2.1
      · have e : vb (ladd p.2 (c :: r, f)).1 = vadd (vb p.2.1) (vb (c :: r)) := vb_ssum (h.leads.row p hp).srt a1.srt
        have hmem : InSpan ((upd lead c (c :: r, f) ++ [(c, (c :: r, f))]).map fun p => vb p.2.1) (vb (ladd p.2 (c :: r, f)).1) :=
          .mem (List.mem_map.2 ⟨(p.1, ladd p.2 (c :: r, f)), List.mem_append_left _ (List.mem_map.2 ⟨p, hp, by rw [if_pos hc]⟩), rfl⟩)
        rw [e] at hmem
        have := hmem.sum xin
        rwa [vadd_back] at this
      · exact .mem (List.mem_map.2 ⟨p, List.mem_append_left _ (List.mem_map.2 ⟨p, hp, by rw [if_neg hc]⟩), rfl⟩)
    have bx : InSpan ((R ++ [row]).map vb) (vb (c :: r)) := by
      have h1 : InSpan (R.map vb) (vadd (vb (c :: r)) (vb row)) := a4.into fun l hl => by
        obtain ⟨p, hp, rfl⟩ := List.mem_map.1 hl
        exact h.back p hp
      have := (dR h1).sum dr
      rwa [vadd_back] at this
    refine ⟨hN, fun r' hr' => ?_, fun q hq => ?_⟩
    · rcases List.mem_append.1 hr' with hr' | hr'
      · exact (h.rows r' hr').into hold
      · rw [List.mem_singleton] at hr'; subst hr'
        have := xin.sum (a4.into hold)
        rwa [vadd_back'] at this
    · rcases List.mem_append.1 hq with hq | hq
      · obtain ⟨p, hp, rfl⟩ := List.mem_map.1 hq
        by_cases hc : c ∈ p.2.1
        · rw [if_pos hc]
          show InSpan _ (vb (ssum p.2.1 (c :: r)))
          rw [vb_ssum (h.leads.row p hp).srt a1.srt]
          exact (dR (h.back p hp)).sum bx
        · rw [if_neg hc]; exact dR (h.back p hp)
      · rw [List.mem_singleton] at hq; subst hq; exact bx
theorem Ech.all {n m : Nat} : ∀ {rows R : List (List Int)} {lead : List (Int × Line)} {dep : List (List Int)} {i : Nat}, Ech n m R lead → (∀ r ∈ rows, Row n r) → i + rows.length ≤ m →
    Ech n m (R ++ rows) (ech n (lead, dep) i rows).1
  | [], R, lead, dep, i, h, _, _ => by simpa [ech] using h
  | row :: rows, R, lead, dep, i, h, hr, hi => by
    simp only [List.length_cons] at hi
    have := Ech.all (rows := rows) (R := R ++ [row]) (lead := (echStep n (lead, dep) i row).1) (dep := (echStep n (lead, dep) i row).2) (i := i + 1) (h.step (hr row (List.mem_cons_self ..)) (by omega)) (fun r h => hr r (List.mem_cons_of_mem _ h)) (by omega)
    rw [List.append_assoc] at this
    exact this
/-- The rows of the echelon form, by columns. -/
def outRows (n : Nat) (lead : List (Int × Line)) : List Line := (List.range n).filterMap fun (c : Nat) => look lead (c : Int)
theorem Leads.look {n m : Nat} {lead : List (Int × Line)} (h : Leads n m lead) {p : Int × Line} (hp : p ∈ lead) : look lead p.1 = some p.2 := by
  cases hl : Go.Proofs.Ytehjnlphfaojcaa.look lead p.1 with
  | none => exact (look_none hl p hp rfl).elim
  | some l =>
    have hm := look_some hl
    obtain ⟨r, er⟩ := h.head _ hm
    have := h.keys p hp _ hm (by rw [er]; exact List.mem_cons_self ..)
    rw [this]
theorem Ech.basis {n m : Nat} {R : List (List Int)} {lead : List (Int × Line)} (h : Ech n m R lead) : Basis (R.map vb) ((outRows n lead).map fun l => vb l.1) := by
  have hin : ∀ p ∈ lead, p.2 ∈ outRows n lead := fun p hp => by
    obtain ⟨r, er⟩ := h.leads.head p hp
    have := (h.leads.row p hp).rng p.1 (by rw [er]; exact List.mem_cons_self ..)
    refine List.mem_filterMap.2 ⟨p.1.toNat, List.mem_range.2 (by omega), ?_⟩
    rw [Int.toNat_of_nonneg this.1]
    exact h.leads.look hp
  have hof : ∀ {l}, l ∈ outRows n lead → ∃ c : Nat, ((c : Int), l) ∈ lead := fun hl => by
    obtain ⟨c, _, hc⟩ := List.mem_filterMap.1 hl
    exact ⟨c, look_some hc⟩
  refine ⟨?_, fun v hv => ?_, fun v hv => ?_⟩
  · have e : (outRows n lead).map (fun l => vb l.1) = ((List.range n).filterMap fun (c : Nat) => (Go.Proofs.Ytehjnlphfaojcaa.look lead (c : Int)).map fun l => ((c : Int), vb l.1)).map (·.2) := by
      rw [outRows, List.map_filterMap, List.map_filterMap]
      congr 1
      funext c
      cases Go.Proofs.Ytehjnlphfaojcaa.look lead (c : Int) <;> rfl
    rw [e]
    refine indep_pivots ?_ ?_
    · intro x hx
      obtain ⟨c, _, hc⟩ := List.mem_filterMap.1 hx
      rw [Option.map_eq_some_iff] at hc
      obtain ⟨l, hl, rfl⟩ := hc
      obtain ⟨r, er⟩ := h.leads.head _ (look_some hl)
      simp only at er
      simp [vb, er]
    · rw [List.pairwise_filterMap]
      refine (List.pairwise_lt_range (n := n)).imp ?_
      intro a b hab x hx y hy
      rw [Option.map_eq_some_iff] at hx hy
      obtain ⟨l, hl, rfl⟩ := hx
      obtain ⟨k, hk, rfl⟩ := hy
      have : (a : Int) ∉ k.1 := fun hm => by
        have := congrArg Prod.fst (h.leads.keys _ (look_some hl) _ (look_some hk) hm)
        simp only at this
        omega
      simp [vb, this]
  · obtain ⟨r, hr, rfl⟩ := List.mem_map.1 hv
    refine (h.rows r hr).sub fun l hl => ?_
    obtain ⟨p, hp, rfl⟩ := List.mem_map.1 hl
    exact List.mem_map.2 ⟨p.2, hin p hp, rfl⟩
  · obtain ⟨l, hl, rfl⟩ := List.mem_map.1 hv
    obtain ⟨c, hc⟩ := hof hl
    exact h.back _ hc
/-- The rank of a matrix of n columns. -/
def rank (n : Nat) (rows : List (List Int)) : Nat := (outRows n (ech n ([], []) 0 rows).1).length
/-- The sum of the rows of a matrix that a row names. -/
def mulRow (b : List (List Int)) (row : List Int) : List Int := row.foldl (fun x j => ssum x (b.getD j.toNat [])) []
def byRows : List Vec → Int → Vec → Vec
  | [], _, _ => vz
  | b :: bs, k, x => vadd (if x k then b else vz) (byRows bs (k + 1) x)
theorem lin_byRows : ∀ (bs : List Vec) (k : Int), Lin (byRows bs k)
  | [], _ => fun _ _ => by simp [byRows, vadd_vz]
  | b :: bs, k => fun x y => by
    rw [byRows, lin_byRows bs (k + 1) x y]
    show vadd (if xor (x k) (y k) then b else vz) _ = vadd (vadd (if x k then b else vz) _) (vadd (if y k then b else vz) _)
    generalize byRows bs (k + 1) x = u
    generalize byRows bs (k + 1) y = v
    funext i
    cases x k <;> cases y k <;> simp only [vadd, vz] <;> cases b i <;> cases u i <;> cases v i <;> simp [vz] <;> assumption
theorem byRows_zero : ∀ (bs : List Vec) (k j : Int), j < k → byRows bs k (vb [j]) = vz
  | [], _, _, _ => rfl
  | b :: bs, k, j, h => by
    have : vb [j] k = false := by simp [vb]; omega
    rw [byRows, byRows_zero bs (k + 1) j (by omega), this, vadd_vz]; rfl
theorem byRows_one : ∀ (bs : List Vec) (k : Int) (d : Nat) (h : d < bs.length), byRows bs k (vb [k + d]) = bs[d]
  | b :: bs, k, 0, _ => by
    have : vb [k + ((0 : Nat) : Int)] k = true := by simp [vb]
    rw [byRows, byRows_zero bs (k + 1) _ (by simp; omega), this, vadd_vz]; rfl
  | b :: bs, k, d + 1, h => by
    have : vb [k + ((d + 1 : Nat) : Int)] k = false := by simp [vb]; omega
    have e : k + ((d + 1 : Nat) : Int) = k + 1 + (d : Int) := by omega
    rw [byRows, this, e, byRows_one bs (k + 1) d (by simpa using h)]
    rw [if_neg (by simp), vz_vadd]; rfl
def units (n : Nat) : List Vec := (List.range n).map fun (j : Nat) => vb [(j : Int)]
theorem vb_cons {j : Int} {a : List Int} (h : Srt (j :: a)) : vb (j :: a) = vadd (vb [j]) (vb a) := by
  funext i
  have : j ∉ a := fun hx => by have := (List.pairwise_cons.1 h).1 j hx; omega
  simp only [vb, vadd, List.mem_cons, List.not_mem_nil, or_false]
  by_cases e : i = j
  · subst e; simp [this]
  · simp [e]
theorem span_units {n : Nat} : ∀ {a : List Int}, Row n a → InSpan (units n) (vb a)
  | [], _ => by rw [vb_nil]; exact .zero
  | j :: a, h => by
    rw [vb_cons h.srt]
    have hj := h.rng j (List.mem_cons_self ..)
    refine (InSpan.mem (List.mem_map.2 ⟨j.toNat, List.mem_range.2 (by omega), ?_⟩)).sum (span_units ⟨(List.pairwise_cons.1 h.srt).2, fun i hi => h.rng i (List.mem_cons_of_mem _ hi)⟩)
    rw [Int.toNat_of_nonneg hj.1]
theorem units_image (b : List (List Int)) : b.map vb = (units b.length).map (byRows (b.map vb) 0) := by
  rw [units, List.map_map]
  refine List.ext_getElem (by simp) fun d h1 h2 => ?_
  have := byRows_one (b.map vb) 0 d (by simpa using h1)
  simp at this ⊢
  rw [this]
theorem foldl_row {n : Nat} {b : List (List Int)} (hb : ∀ r ∈ b, Row n r) : ∀ {a : List Int} {x : List Int}, Row b.length a → Row n x →
    Row n (a.foldl (fun x j => ssum x (b.getD j.toNat [])) x) ∧ vb (a.foldl (fun x j => ssum x (b.getD j.toNat [])) x) = vadd (vb x) (byRows (b.map vb) 0 (vb a))
  | [], x, _, hx => ⟨hx, by rw [vb_nil, (lin_byRows _ _).vz, vadd_vz]; rfl⟩
  | j :: a, x, h, hx => by
    have hj := h.rng j (List.mem_cons_self ..)
    have hlt : j.toNat < b.length := by omega
    have hr : Row n (b.getD j.toNat []) := by rw [List.getD_eq_getElem?_getD, List.getElem?_eq_getElem hlt, Option.getD_some]; exact hb _ (List.getElem_mem _)
    have := foldl_row hb (a := a) (x := ssum x (b.getD j.toNat [])) ⟨(List.pairwise_cons.1 h.srt).2, fun i hi => h.rng i (List.mem_cons_of_mem _ hi)⟩ (hx.sum hr)
    refine ⟨this.1, ?_⟩
    rw [List.foldl_cons, this.2, vb_ssum hx.srt hr.srt, vb_cons h.srt, lin_byRows]
    have e := byRows_one (b.map vb) 0 j.toNat (by simpa using hlt)
    rw [Int.zero_add, Int.toNat_of_nonneg hj.1] at e
    rw [e, List.getElem_map, List.getD_eq_getElem?_getD, List.getElem?_eq_getElem hlt, Option.getD_some, vadd_assoc]
/-- The rank of a product is at most that of each factor, and at least the sum of both less the number that they have in common. -/
theorem ranks_rows {n : Nat} {a b : List (List Int)} (ha : ∀ r ∈ a, Row b.length r) (hb : ∀ r ∈ b, Row n r) :
    (∀ r ∈ a.map (mulRow b), Row n r) ∧ rank n (a.map (mulRow b)) ≤ rank b.length a ∧ rank n (a.map (mulRow b)) ≤ rank n b ∧ rank b.length a + rank n b ≤ rank n (a.map (mulRow b)) + b.length := by
  have hc : ∀ r ∈ a.map (mulRow b), Row n r := fun r hr => by
    obtain ⟨x, hx, rfl⟩ := List.mem_map.1 hr
    exact (foldl_row hb (ha x hx) .nil).1
  have hA := (Ech.nil.all (dep := []) (i := 0) ha (Nat.le_of_eq (Nat.zero_add _))).basis
  have hB := (Ech.nil.all (dep := []) (i := 0) hb (Nat.le_of_eq (Nat.zero_add _))).basis
  have hC := (Ech.nil.all (dep := []) (i := 0) hc (Nat.le_of_eq (Nat.zero_add _))).basis
  rw [List.nil_append] at hA hB hC
  have eC : (a.map (mulRow b)).map vb = (a.map vb).map (byRows (b.map vb) 0) := by
    rw [List.map_map, List.map_map]
    refine List.map_congr_left fun x hx => ?_
    have := (foldl_row hb (ha x hx) .nil).2
    rw [vb_nil, vz_vadd] at this
    exact this
  rw [eC] at hC
  have := ranks (lin_byRows (b.map vb) 0) hA (U := units b.length) (fun r hr => by obtain ⟨x, hx, rfl⟩ := List.mem_map.1 hr; exact span_units (ha x hx)) hB (units_image b) hC
  simp only [List.length_map, units, List.length_range] at this
  exact ⟨hc, this⟩
end Go.Proofs.Ytehjnlphfaojcaa
