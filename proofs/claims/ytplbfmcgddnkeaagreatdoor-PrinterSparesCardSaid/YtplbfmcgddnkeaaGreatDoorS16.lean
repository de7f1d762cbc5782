/- Joined: Sub, Cat, Wg, Wq, Ord, PlainQ. -/
import Derived.Test.YtplbfmcgddnkeaaGreatDoorS15
import Derived.Test.YtplbfmcgddnkeaaGreatDoorS14
import Derived.Test.YtplbfmcgddnkeaaGreatDoorS07
import Derived.Test.YtplbfmcgddnkeaaGreatDoorS03
import Derived.Test.YtplbfmcgddnkeaaGreatDoorS01
set_option linter.unusedVariables false
set_option linter.unusedSimpArgs false
section
namespace Go.Proofs.YtplbfmcgddnkeaaGreatDoor
def goesOn : List (List (List UInt8)) := [[kOr], [kAnd], [[43], [45]], [[61], [33, 61], [60], [60, 61]], [[116, 104, 101, 110]], [[117, 110, 116, 105, 108]], [[44]]]
structure SubT (T U : List Tok) (m d : Nat) : Prop where
  len : T.length = m + 1
  lst : (tk T m).kind = 3
  inn : ∀ i, i < m → (tk T i).kind ≠ 3
  ulen : m + d < U.length
  kind : ∀ i, i < m → (tk T i).kind = (tk U (i + d)).kind
  text : ∀ i, i < m → (tk T i).text = (tk U (i + d)).text
  stop : ∀ ws ∈ goesOn, isW U ws (m + d) = false
def SimO {α β : Type} (m d dl : Nat) (R : α → β → Prop) (o : Out α) (u : Out β) : Prop :=
  match o with
  | .ok a j => match u with | .ok b l => j ≤ m ∧ l = j + d ∧ R a b | .err _ e => e = 12 ∧ 0 < dl | .none => False
  | _ => True
section
variable {T U : List Tok} {res : List UInt8 → Bool} {lv i m d dl : Nat}
theorem SimO.bind {α β γ δ : Type} {R : α → β → Prop} {Q : γ → δ → Prop} {o : Out α} {u : Out β} {f : α → Nat → Out γ} {g : β → Nat → Out δ} (h : SimO m d dl R o u) (hf : ∀ a b j, j ≤ m → R a b → SimO m d dl Q (f a j) (g b (j + d))) : SimO m d dl Q (o.bind f) (u.bind g) := by
  cases o with
  | none => trivial
  | err p e => trivial
  | ok a j =>
    cases u with
    | none => exact h.elim
    | err p e =>
      show SimO m d dl Q (f a j) (.err p e)
      cases f a j with
      | none => trivial
      | err p e => trivial
      | ok b l => exact h
    | ok b l =>
      obtain ⟨h1, rfl, h2⟩ := h
      exact hf _ _ _ h1 h2
theorem SubT.last (h : SubT T U m d) : (tk T (T.length - 1)).kind = 3 := by rw [h.len, Nat.add_sub_cancel]; exact h.lst
theorem SubT.isN (h : SubT T U m d) (ws : List (List UInt8)) : isW T ws m = false := by unfold isW; rw [h.lst]; rfl
theorem SubT.lt (h : SubT T U m d) {ws : List (List UInt8)} (hi : i ≤ m) (hw : isW T ws i = true) : i < m := by
  rcases Nat.lt_or_ge i m with hl | hl
  · exact hl
  · obtain rfl : i = m := by omega
    rw [h.isN] at hw; cases hw
theorem SubT.le (h : SubT T U m d) : T.length ≤ U.length := by have := h.len; have := h.ulen; omega
def BR (m d dl : Nat) (r q : Rd) : Prop := ∀ lv i, i ≤ m → SimO m d dl (Twin Any) (r lv i) (q (lv + dl) (i + d))
inductive BRs (m d dl : Nat) : List Rd → List Rd → Prop
  | nil : BRs m d dl [] []
  | cons {r q : Rd} {rs qs : List Rd} (h : BR m d dl r q) (hr : BRs m d dl rs qs) : BRs m d dl (r :: rs) (q :: qs)
end
end Go.Proofs.YtplbfmcgddnkeaaGreatDoor
end
section
namespace Go.Proofs.YtplbfmcgddnkeaaGreatDoor
abbrev KT := Int × List UInt8
def kts (ts : List Tok) : List KT := ts.map fun t => (t.kind, t.text)
abbrev ktEnd : KT := (3, [])
def Lx (l : List UInt8) (K : List KT) : Prop := ∀ p, ∃ ts, scanL p l = .ok ts ∧ kts ts = K
theorem tk_kind (T : List Tok) (i : Nat) : (tk T i).kind = ((kts T).getD i ktEnd).1 := by
  unfold tk kts
  rw [List.getD_eq_getElem?_getD, List.getD_eq_getElem?_getD, List.getElem?_map]
  cases T[i]? <;> rfl
theorem tk_text (T : List Tok) (i : Nat) : (tk T i).text = ((kts T).getD i ktEnd).2 := by
  unfold tk kts
  rw [List.getD_eq_getElem?_getD, List.getD_eq_getElem?_getD, List.getElem?_map]
  cases T[i]? <;> rfl
theorem kts_len (T : List Tok) : (kts T).length = T.length := by unfold kts; rw [List.length_map]
theorem good_kts {T : List Tok} (h : Good T) : ∃ C, kts T = C ++ [ktEnd] ∧ ∀ x ∈ C, ∃ k : Nat, x.1 = k ∧ tok x.2 = .ok (k, x.2.length) := by
  induction T with
  | nil => exact h.elim
  | cons t r ih =>
    rcases h with ⟨h1, h2, rfl⟩ | ⟨h1, h2⟩
    · exact ⟨[], by simp [kts, h1, h2], fun x hx => (List.not_mem_nil hx).elim⟩
    · obtain ⟨C, hC, hx⟩ := ih h2
      refine ⟨(t.kind, t.text) :: C, by simp only [kts, List.map_cons, List.cons_append]; rw [← hC]; rfl, fun x hm => ?_⟩
      rcases List.mem_cons.1 hm with rfl | hm
      · exact h1
      · exact hx x hm
theorem scan_good {s : List UInt8} {T : List Tok} (h : scan s = .ok T) : Good T := by
  unfold scan at h
  split at h
  · cases h
  · exact (scanGo_good (s.length + 1) 0 s T (by omega) h).1
def Toks (C : List KT) : Prop := ∀ x ∈ C, ∃ k : Nat, x.1 = k ∧ tok x.2 = .ok (k, x.2.length)
theorem Toks.kind {C : List KT} (h : Toks C) {x : KT} (hx : x ∈ C) : x.1 ≠ 3 := by
  obtain ⟨k, h1, h2⟩ := h x hx
  have := tok_kinds h2
  omega
theorem scan_toks {s : List UInt8} {T : List Tok} (h : scan s = .ok T) : ∃ C, kts T = C ++ [ktEnd] ∧ Toks C := good_kts (scan_good h)
end Go.Proofs.YtplbfmcgddnkeaaGreatDoor
end
section
set_option maxHeartbeats 1000000
namespace Go.Proofs.YtplbfmcgddnkeaaGreatDoor
section
variable {T : List Tok} {C lv i : Nat}
theorem part_w {f : Nat} {k : Int} (hA : TT C T) (hi : (tk T i).kind ≠ 3) : WO (QW C (partB k) i) (part reservedB T f k lv i) := by
  unfold part
  rw [hA.nxt i hi]
  refine (rd_w hA f .cond _ _).bind fun x j hx => ⟨?_, ?_⟩
  · have hx := hx.1
    dsimp only [okN] at hx
    simp [partB, Syn.kind, Syn.text, Syn.num, Syn.kids, hx]
  · have h1 := hx.2
    have hc := hA.len i
    rw [mulS] at h1
    rw [mass_mk, massL_cons, massL_nil]; simp only [List.length_nil]; omega
theorem opt_w {f : Nat} {w : List UInt8} {k : Int} {xs : List Syn} {b : Nat} (hA : TT C T) (hx : massL xs + C * b ≤ C * i) : WO (fun ys j => (ys = xs ∨ ∃ y, ys = xs ++ [y] ∧ partB k y = true) ∧ massL ys + C * b ≤ C * j) (optPart reservedB T f w k xs lv i) := by
  unfold optPart
  split
  · rename_i hw
    exact (part_w hA (isW_w hw).1).bind fun y j hy => ⟨Or.inr ⟨y, rfl, hy.1⟩, by rw [massL_app, massL_cons, massL_nil]; have := hy.2; omega⟩
  · exact ⟨Or.inl rfl, hx⟩
theorem part_kind {k : Int} {x : Syn} (h : partB k x = true) : x.kind = k := by unfold partB at h; simp only [Bool.and_eq_true, decide_eq_true_eq] at h; exact h.1.1.1
theorem task_w {b y : Syn} {xs ys : List Syn} (hb : isNum b = true) (hxs : xs = [b] ∨ ∃ z, xs = [b] ++ [z] ∧ partB 2 z = true) (hy : partB 3 y = true) (hys : ys = xs ++ [y] ∨ ∃ z, ys = (xs ++ [y]) ++ [z] ∧ partB 4 z = true) : taskB ys = true := by
  have hk : y.kind ≠ 2 := by rw [part_kind hy]; decide
  rcases hxs with rfl | ⟨z, rfl, hz⟩ <;> rcases hys with rfl | ⟨u, rfl, hu⟩
  · simp [taskB, hb, hk, hy]
  · simp [taskB, hb, hk, hy, hu]
  · simp [taskB, hb, part_kind hz, hz, hy]
  · simp [taskB, hb, part_kind hz, hz, hy, hu]
theorem num_nat {x : Syn} (h : isNum x = true) : natB x.num = true := by unfold isNum at h; simp only [Bool.and_eq_true] at h; exact h.1.2
theorem nm_name {x : Syn} (h : isNm x = true) : nameB x.text = true := by unfold isNm at h; simp only [Bool.and_eq_true] at h; exact h.2
theorem mass_pos (x : Syn) : 70 + 2 * x.text.length ≤ mass x := by rcases x with ⟨a, b, c, d, e⟩; rw [mass_mk]; simp only [Syn.text]; omega
theorem declB_mk {k : Int} {t : List UInt8} {n p : Int} {l : List Syn} : declB (.mk k t n p l) = (nameB t && natB n && (if k = 1 then taskB l else if k = 5 then decide (n = 0) && (match l with | [a] => oks a | _ => false)
    else if k = 6 then decide (n = 0) && (match l with | [a] => okf a | _ => false) else if k = 7 then (match l with | [a, b] => isNm a && isNm b | _ => false) else false)) := rfl
theorem progB_mk {k : Int} {t : List UInt8} {n p : Int} {l : List Syn} : progB (.mk k t n p l) = (decide (k = 0) && (t == []) && natB n && l.all declB) := rfl
theorem nat0 : natB 0 = true := by decide
theorem decl_w {f : Nat} (hA : TT C T) : WO (QW C declB i) (declaration reservedB T f lv i) := by
  unfold declaration
  have hc := hA.len i
  refine WO.bind (P := QW C declB i) ?_ fun x j hx => (need_w hA).bind fun _ k hk => ⟨hx.1, by subst hk; rw [mulS]; have := hx.2; omega⟩
  split
  · rename_i hw
    rw [hA.nxt i (isW_w hw).1]
    refine (name_w hA).bind fun nm j hnm => (need_w hA).bind fun _ j1 h1 => (number_w hA).bind fun a j2 ha => (need_w hA).bind fun _ j3 h3 => (number_w hA).bind fun b j4 hb => (opt_w (b := j3) hA (xs := [b]) (by rw [massL_cons, massL_nil]; have := hb.2; omega)).bind fun xs j5 hxs => ?_
    split
    · rename_i hw2
      refine (part_w hA (isW_w hw2).1).bind fun y j6 hy => (opt_w (b := j3) hA (xs := xs ++ [y]) (by rw [massL_app, massL_cons, massL_nil]; have := hxs.2; have := hy.2; omega)).bind fun ys j7 hys => ⟨?_, ?_⟩
      · simp [declB_mk, nm_name hnm.1, num_nat ha.1, task_w hb.1 hxs.1 hy.1 hys.1]
      · have e1 := hnm.2; have e2 := ha.2; have e3 := hys.2
        subst h1; subst h3
        rw [mulS] at e1 e2 e3
        have := mass_pos nm
        rw [mass_mk]; omega
    · trivial
  split
  · rename_i hw
    rw [hA.nxt i (isW_w hw).1]
    refine (name_w hA).bind fun nm j hnm => (need_w hA).bind fun _ j1 h1 => (rd_w hA f .scheme _ _).bind fun x j2 hx => ⟨?_, ?_⟩
    · have hx := hx.1
      dsimp only [okN] at hx
      simp [declB_mk, nm_name hnm.1, hx, nat0]
    · have e1 := hnm.2; have e2 := hx.2
      subst h1
      rw [mulS] at e1 e2
      have := mass_pos nm
      rw [mass_mk, massL_cons, massL_nil]; omega
  split
  · rename_i hw
    rw [hA.nxt i (isW_w hw).1]
    refine (name_w hA).bind fun nm j hnm => (need_w hA).bind fun _ j1 h1 => (rd_w hA f .formula _ _).bind fun x j2 hx => ⟨?_, ?_⟩
    · have hx := hx.1
      dsimp only [okN] at hx
      simp [declB_mk, nm_name hnm.1, hx, nat0]
    · have e1 := hnm.2; have e2 := hx.2
      subst h1
      rw [mulS] at e1 e2
      have := mass_pos nm
      rw [mass_mk, massL_cons, massL_nil]; omega
  split
  · rename_i hw
    rw [hA.nxt i (isW_w hw).1]
    refine (name_w hA).bind fun nm j hnm => (need_w hA).bind fun _ j1 h1 => (name_w hA).bind fun a j2 ha => (need_w hA).bind fun _ j3 h3 => (name_w hA).bind fun b j4 hb => (need_w hA).bind fun _ j5 h5 => (number_w hA).bind fun n j6 hn => ⟨?_, ?_⟩
    · simp [declB_mk, nm_name hnm.1, num_nat hn.1, ha.1, hb.1]
    · have e1 := hnm.2; have e2 := ha.2; have e3 := hb.2; have e4 := hn.2
      subst h1; subst h3; subst h5
      rw [mulS] at e1 e2 e3 e4
      have := mass_pos nm
      rw [mass_mk, massL_cons, massL_cons, massL_nil]; omega
  · trivial
theorem declLoop_w {f : Nat} (hA : TT C T) (g : Nat) : ∀ xs k, (xs.all declB = true ∧ massL xs + C * i ≤ C * k) → WO (fun xs j => xs.all declB = true ∧ massL xs + C * i ≤ C * j) (declLoop reservedB T f lv g xs k) := by
  induction g with
  | zero => intro x k _; trivial
  | succ g ih =>
    intro xs k hx
    unfold declLoop
    split
    · exact hx
    · exact (decl_w hA).bind fun y l hy => ih _ _ ⟨by rw [List.all_append, hx.1]; simp [hy.1], by
        have h1 := hx.2; have h2 := hy.2; rw [massL_app, massL_cons, massL_nil]; omega⟩
theorem program_w {f : Nat} (hA : TT C T) : WR C progB (program reservedB T f) := fun lv i => by
  unfold program
  have hc := hA.len i
  refine (need_w hA).bind fun t j hj => (number_w hA).bind fun n j1 hn => (need_w hA).bind fun _ j2 h2 => (declLoop_w (i := j2) hA _ [] _ ⟨rfl, by rw [massL_nil]; omega⟩).bind fun xs j3 hxs => ⟨?_, ?_⟩
  · simp [progB_mk, num_nat hn.1]
    simpa using hxs.1
  · have e1 := hn.2; have e2 := hxs.2
    subst hj; subst h2
    rw [mulS] at e1 e2
    rw [mass_mk]; simp only [List.length_nil]; omega
theorem whole_w {r : Rd} {ok : Syn → Bool} (h : WR C ok r) : WO (QW C ok 0) (whole T r) := (h _ _).bind fun x i hx => by
  split
  · exact hx
  · trivial
end
theorem scan_TT {s : List UInt8} {T : List Tok} (h : scan s = .ok T) : TT (100 + 2 * s.length) T ∧ T.length ≤ s.length + 1 := by
  have hs : s.length ≤ 65536 := by
    rcases Nat.lt_or_ge 65536 s.length with h' | h'
    · rw [scan, if_pos h'] at h; cases h
    · exact h'
  have hg := scan_good h
  have h1 : ∀ t ∈ T, NumTok t ∧ t.text.length ≤ s.length := fun t ht => ⟨(scanned h).num t ht, (scanned h).txt t ht⟩
  have h2 := joinErrs_zero (good_errs T hg)
  obtain ⟨C, hC, hT⟩ := scan_toks h
  have hlen : T.length = C.length + 1 := by rw [← kts_len, hC]; simp
  have hin : ∀ i, (tk T i).kind ≠ 3 → tk T i ∈ T ∧ i < C.length := by
    intro i hi
    rcases Nat.lt_or_ge i T.length with h' | h'
    · refine ⟨by unfold tk; rw [List.getD_eq_getElem?_getD, List.getElem?_eq_getElem h']; exact List.getElem_mem h', ?_⟩
      rcases Nat.lt_or_ge i C.length with h'' | h''
      · exact h''
      · exfalso
        have : i = C.length := by omega
        subst this
        apply hi
        rw [tk_kind, hC, List.getD_eq_getElem?_getD, List.getElem?_append_right (Nat.le_refl _)]; simp
    · exfalso; apply hi; unfold tk; rw [List.getD_eq_getElem?_getD, List.getElem?_eq_none h']; rfl
  refine ⟨⟨fun i hi => by unfold nx; rw [if_pos (by have := (hin i hi).2; omega)], fun i => ?_, fun i hi => ?_, fun i hi => ?_⟩, ?_⟩
  · by_cases hk : (tk T i).kind = 3
    · have : (tk T i).text.length ≤ s.length := by
        rcases Nat.lt_or_ge i T.length with h' | h'
        · exact (h1 _ (by unfold tk; rw [List.getD_eq_getElem?_getD, List.getElem?_eq_getElem h']; exact List.getElem_mem h')).2
        · unfold tk; rw [List.getD_eq_getElem?_getD, List.getElem?_eq_none h']; simp [tkEnd]
      omega
    · have := (h1 _ (hin i hk).1).2; omega
  · have := (h2 _ (hin i (by rw [hi]; decide)).1).2.2
    rw [hi] at this; exact this
  · exact ((h1 _ (hin i (by rw [hi]; decide)).1).1 hi).2.2
  · exact (scanned h).len
end Go.Proofs.YtplbfmcgddnkeaaGreatDoor
end
section
set_option maxHeartbeats 1000000
namespace Go.Proofs.YtplbfmcgddnkeaaGreatDoor
theorem tsk_rest {l : List Syn} (h : (match l with | [] => false | [b] => partB 3 b | [b, c] => partB 3 b && partB 4 c | (_ :: _ :: _ :: _) => false) = true) :
    ∃ b c, l = b :: c ∧ partB 3 b = true ∧ (c = [] ∨ ∃ x, c = [x] ∧ partB 4 x = true) := by
  match l, h with
  | [b], h => exact ⟨b, [], rfl, h, .inl rfl⟩
  | [b, c], h =>
    simp only [Bool.and_eq_true] at h
    exact ⟨b, [c], rfl, h.1, .inr ⟨c, rfl, h.2⟩⟩
def Tsk (l : List Syn) : Prop := ∃ a w b c, l = a :: (w ++ b :: c) ∧ isNum a = true ∧ (w = [] ∨ ∃ x, w = [x] ∧ partB 2 x = true) ∧ partB 3 b = true ∧ (c = [] ∨ ∃ x, c = [x] ∧ partB 4 x = true)
theorem task_tsk {l : List Syn} (h : taskB l = true) : Tsk l := by
  unfold taskB at h
  match l, h with
  | [], h => cases h
  | [a], h => simp at h
  | a :: b :: r, h =>
    simp only [Bool.and_eq_true] at h
    obtain ⟨ha, h⟩ := h
    by_cases hb : b.kind = 2
    · rw [if_pos hb] at h
      by_cases hp : partB 2 b = true
      · rw [if_pos hp] at h
        obtain ⟨x, c, rfl, h1, h2⟩ := tsk_rest (l := r) (by cases r with | nil => exact h | cons _ r => cases r with | nil => exact h | cons _ r => cases r <;> exact h)
        exact ⟨a, [b], x, c, rfl, ha, .inr ⟨b, rfl, hp⟩, h1, h2⟩
      · rw [if_neg hp] at h; cases h
    · rw [if_neg hb] at h
      obtain ⟨x, c, e, h1, h2⟩ := tsk_rest (l := b :: r) (by cases r with | nil => exact h | cons _ r => cases r <;> exact h)
      exact ⟨a, [], x, c, by rw [e]; rfl, ha, .inl rfl, h1, h2⟩
theorem part_shape {k : Int} {x : Syn} (h : partB k x = true) : ∃ q a, x = .mk k [] 0 q [a] ∧ okc a = true := by
  obtain ⟨k', t, n, q, ks⟩ := x
  unfold partB at h
  simp only [Syn.kind, Syn.text, Syn.num, Syn.kids, Bool.and_eq_true, decide_eq_true_eq, beq_iff_eq] at h
  obtain ⟨⟨⟨h1, h2⟩, h3⟩, h4⟩ := h
  match ks, h4 with
  | [a], h4 =>
    obtain rfl : k' = k := of_decide_eq_true h1
    obtain rfl : n = 0 := of_decide_eq_true h3
    subst h2
    exact ⟨q, a, rfl, h4⟩
theorem decl_parts {t : Syn} (h : declB t = true) : nameB t.text = true ∧ (0 ≤ t.num ∧ t.num ≤ 1048576) ∧
    ((t.kind = 1 ∧ Tsk t.kids) ∨ (t.kind = 5 ∧ t.num = 0 ∧ ∃ a, t.kids = [a] ∧ oks a = true) ∨ (t.kind = 6 ∧ t.num = 0 ∧ ∃ a, t.kids = [a] ∧ okf a = true) ∨ (t.kind = 7 ∧ ∃ a b, t.kids = [a, b] ∧ isNm a = true ∧ isNm b = true)) := by
  unfold declB natB at h
  simp only [Bool.and_eq_true, decide_eq_true_eq] at h
  obtain ⟨⟨h1, h2⟩, h3⟩ := h
  refine ⟨h1, h2, ?_⟩
  by_cases k1 : t.kind = 1
  · rw [if_pos k1] at h3; exact .inl ⟨k1, task_tsk h3⟩
  rw [if_neg k1] at h3
  by_cases k5 : t.kind = 5
  · rw [if_pos k5] at h3
    simp only [Bool.and_eq_true, decide_eq_true_eq] at h3
    refine .inr (.inl ⟨k5, h3.1, ?_⟩)
    obtain ⟨-, h3⟩ := h3
    split at h3
    · rename_i a e; exact ⟨a, e, h3⟩
    · cases h3
  rw [if_neg k5] at h3
  by_cases k6 : t.kind = 6
  · rw [if_pos k6] at h3
    simp only [Bool.and_eq_true, decide_eq_true_eq] at h3
    refine .inr (.inr (.inl ⟨k6, h3.1, ?_⟩))
    obtain ⟨-, h3⟩ := h3
    split at h3
    · rename_i a e; exact ⟨a, e, h3⟩
    · cases h3
  rw [if_neg k6] at h3
  by_cases k7 : t.kind = 7
  · rw [if_pos k7] at h3
    refine .inr (.inr (.inr ⟨k7, ?_⟩))
    split at h3
    · rename_i a b e
      simp only [Bool.and_eq_true] at h3
      exact ⟨a, b, e, h3⟩
    · cases h3
  · rw [if_neg k7] at h3; cases h3
theorem prog_parts {t : Syn} (h : progB t = true) : t.kind = 0 ∧ t.text = [] ∧ (0 ≤ t.num ∧ t.num ≤ 1048576) ∧ ∀ x ∈ t.kids, declB x = true := by
  unfold progB natB at h
  simp only [Bool.and_eq_true, decide_eq_true_eq, beq_iff_eq, List.all_eq_true] at h
  exact ⟨h.1.1.1, h.1.1.2, h.1.2, h.2⟩
theorem tsk_parts {a b : Syn} {w c : List Syn} (hw : w = [] ∨ ∃ x, w = [x] ∧ partB 2 x = true) (hb : partB 3 b = true) (hc : c = [] ∨ ∃ x, c = [x] ∧ partB 4 x = true) :
    ∀ x ∈ w ++ b :: c, ∃ k : Int, (k = 2 ∨ k = 3 ∨ k = 4) ∧ partB k x = true := by
  intro x hx
  rcases List.mem_append.1 hx with hx | hx
  · rcases hw with rfl | ⟨y, rfl, hy⟩
    · cases hx
    · rw [List.mem_singleton.1 hx]; exact ⟨2, .inl rfl, hy⟩
  · rcases List.mem_cons.1 hx with rfl | hx
    · exact ⟨3, .inr (.inl rfl), hb⟩
    · rcases hc with rfl | ⟨y, rfl, hy⟩
      · cases hx
      · rw [List.mem_singleton.1 hx]; exact ⟨4, .inr (.inr rfl), hy⟩
end Go.Proofs.YtplbfmcgddnkeaaGreatDoor
end
section
namespace Go.Proofs.YtplbfmcgddnkeaaGreatDoor
structure Asc (n : Int) (T : List Tok) : Prop where
  mono : ∀ i j, i ≤ j → j < T.length → (tk T i).pos ≤ (tk T j).pos
  low : ∀ i, i < T.length → 0 ≤ (tk T i).pos
  high : ∀ i, i < T.length → (tk T i).pos ≤ n
  inn : ∀ i, i < T.length → (tk T i).kind ≠ 3 → (tk T i).pos < n
inductive Ord (n : Int) : Syn → Prop
  | mk {kd : Int} {tx : List UInt8} {m a : Int} {k : List Syn} (h : a < n) (hp : ∀ z ∈ k, a ≤ z.pos) (hk : ∀ z ∈ k, Ord n z) : Ord n (.mk kd tx m a k)
def GoodO {α : Type} (n : Int) (T : List Tok) (P : α → Nat → Prop) (i : Nat) (o : Out α) : Prop :=
  match o with | .none => True | .err p e => 0 ≤ p ∧ p ≤ n ∧ (e = 4 ∨ e = 12) | .ok a j => i ≤ j ∧ j < T.length ∧ P a j
section
variable {n : Int} {T : List Tok} {res : List UInt8 → Bool} {lv i : Nat} {b : Int}
theorem GoodO.bind {α β : Type} {P : α → Nat → Prop} {Q : β → Nat → Prop} {o : Out α} {f : α → Nat → Out β} {k : Nat} (h : GoodO n T P i o) (hk : k ≤ i) (hf : ∀ a j, i ≤ j → j < T.length → P a j → GoodO n T Q k (f a j)) : GoodO n T Q k (o.bind f) := by
  cases o with
  | none => trivial
  | err p e => exact h
  | ok a j => exact hf a j h.1 h.2.1 h.2.2
theorem GoodO.back {α : Type} {P Q : α → Nat → Prop} {o : Out α} {k : Nat} (h : GoodO n T P i o) (hk : k ≤ i) (hf : ∀ a j, i ≤ j → j < T.length → P a j → Q a j) : GoodO n T Q k o := by
  cases o with
  | none => trivial
  | err p e => exact h
  | ok a j => exact ⟨Nat.le_trans hk h.1, h.2.1, hf a j h.1 h.2.1 h.2.2⟩
theorem nx_le0 : i ≤ nx T i := by unfold nx; split <;> omega
theorem nx_lt0 (h : i < T.length) : nx T i < T.length := by unfold nx; split <;> omega
theorem fail_g {α : Type} {P : α → Nat → Prop} {e j k : Nat} (hA : Asc n T) (hj : j < T.length) (he : e = 4 ∨ e = 12 := by decide) : GoodO n T P k (fail T e j : Out α) := ⟨hA.low j hj, hA.high j hj, he⟩
theorem isW_k {ws : List (List UInt8)} (h : isW T ws i = true) : (tk T i).kind ≠ 3 := by
  unfold isW at h
  simp only [Bool.and_eq_true, Bool.or_eq_true, decide_eq_true_eq] at h
  omega
def SynG (n : Int) (T : List Tok) (b : Int) (x : Syn) (j : Nat) : Prop := b ≤ x.pos ∧ x.pos ≤ (tk T j).pos ∧ Ord n x
def SynsG (n : Int) (b : Int) (xs : List Syn) (_ : Nat) : Prop := ∀ z ∈ xs, b ≤ z.pos ∧ Ord n z
theorem need_g {w : List UInt8} (hA : Asc n T) (hi : i < T.length) : GoodO n T (fun t j => t = tk T i ∧ t.pos < n ∧ j = nx T i) i (need T w i) := by
  unfold need
  split
  · rename_i h
    exact ⟨nx_le0, nx_lt0 hi, rfl, hA.inn i hi (isW_k h), rfl⟩
  · exact fail_g hA hi
theorem leaf_g {kd m a : Int} {tx : List UInt8} {j : Nat} (hb : b ≤ a) (hj : a ≤ (tk T j).pos) (hn : a < n) : SynG n T b (.mk kd tx m a []) j :=
  ⟨hb, hj, .mk hn (fun z h => (List.not_mem_nil h).elim) (fun z h => (List.not_mem_nil h).elim)⟩
theorem node_g {kd m a : Int} {tx : List UInt8} {k : List Syn} {j l : Nat} (hb : b ≤ a) (hj : a ≤ (tk T j).pos) (hn : a < n) (hk : SynsG n a k l) : SynG n T b (.mk kd tx m a k) j :=
  ⟨hb, hj, .mk hn (fun z h => (hk z h).1) (fun z h => (hk z h).2)⟩
theorem syns1 {x : Syn} {j l : Nat} (h : SynG n T b x j) : SynsG n b [x] l := fun z hz => by rw [List.mem_singleton.1 hz]; exact ⟨h.1, h.2.2⟩
theorem SynsG.add {x : Syn} {xs : List Syn} {j k l : Nat} (hx : SynsG n b xs j) (h : SynG n T b x k) : SynsG n b (xs ++ [x]) l := fun z hz => by
  rcases List.mem_append.1 hz with hz | hz
  · exact hx z hz
  · rw [List.mem_singleton.1 hz]; exact ⟨h.1, h.2.2⟩
theorem SynsG.cons {x : Syn} {xs : List Syn} {j k l : Nat} (h : SynG n T b x k) (hx : SynsG n b xs j) : SynsG n b (x :: xs) l := fun z hz => by
  rcases List.mem_cons.1 hz with rfl | hz
  · exact ⟨h.1, h.2.2⟩
  · exact hx z hz
theorem SynG.on {x : Syn} {j k : Nat} (hA : Asc n T) (h : SynG n T b x j) (hk : j ≤ k) (hl : k < T.length) : SynG n T b x k := ⟨h.1, Int.le_trans h.2.1 (hA.mono j k hk hl), h.2.2⟩
theorem SynG.low {x : Syn} {j : Nat} {c : Int} (h : SynG n T b x j) (hc : c ≤ b) : SynG n T c x j := ⟨Int.le_trans hc h.1, h.2⟩
theorem name_g (hA : Asc n T) (hi : i < T.length) (hb : b ≤ (tk T i).pos) : GoodO n T (SynG n T b) i (name res T i) := by
  unfold name
  split
  · exact fail_g hA hi
  · rename_i h
    exact ⟨nx_le0, nx_lt0 hi, leaf_g hb (hA.mono _ _ nx_le0 (nx_lt0 hi)) (hA.inn i hi (by omega))⟩
theorem number_g (hA : Asc n T) (hi : i < T.length) (hb : b ≤ (tk T i).pos) : GoodO n T (SynG n T b) i (number T i) := by
  unfold number
  split
  · exact fail_g hA hi
  · rename_i h
    exact ⟨nx_le0, nx_lt0 hi, leaf_g hb (hA.mono _ _ nx_le0 (nx_lt0 hi)) (hA.inn i hi (by omega))⟩
def GR (n : Int) (T : List Tok) (r : Rd) : Prop := ∀ lv i b, i < T.length → b ≤ (tk T i).pos → GoodO n T (SynG n T b) i (r lv i)
theorem within_g {r : Rd} (hA : Asc n T) (h : GR n T r) (hi : i < T.length) (hb : b ≤ (tk T i).pos) : GoodO n T (SynG n T b) i (within T r lv i) := by
  unfold within
  split
  · exact fail_g hA hi
  · exact h _ _ _ hi hb
theorem upto {j : Nat} (hA : Asc n T) (hb : b ≤ (tk T i).pos) (hj : i ≤ j) (hl : j < T.length) : b ≤ (tk T j).pos := Int.le_trans hb (hA.mono i j hj hl)
theorem parens_g {r : Rd} (hA : Asc n T) (h : GR n T r) (hi : i < T.length) (hb : b ≤ (tk T i).pos) : GoodO n T (SynG n T b) i (parens T r lv i) :=
  (need_g hA hi).bind (Nat.le_refl _) fun _ j hj hl _ => (within_g hA h hl (upto hA hb hj hl)).bind hj fun x k hk hl2 hx => (need_g hA hl2).bind (Nat.le_trans hj hk) fun _ m hm hl3 _ => ⟨by omega, hl3, hx.on hA hm hl3⟩
theorem argsMore_g {rs : List Rd} (hA : Asc n T) (hr : ∀ r ∈ rs, GR n T r) : ∀ i, i < T.length → b ≤ (tk T i).pos → GoodO n T (SynsG n b) i (argsGo.argsMore T rs lv i) := by
  induction rs with
  | nil => intro i hi hb; exact ⟨Nat.le_refl _, hi, fun z h => (List.not_mem_nil h).elim⟩
  | cons r rs ih =>
    intro i hi hb
    exact (need_g hA hi).bind (Nat.le_refl _) fun _ j hj hl _ => (hr r (List.mem_cons_self ..) _ _ _ hl (upto hA hb hj hl)).bind hj fun x k hk hl2 hx => (ih (fun r h => hr r (List.mem_cons_of_mem _ h)) _ hl2 (upto hA hb (Nat.le_trans hj hk) hl2)).bind (Nat.le_trans hj hk) fun xs m hm hl3 hxs => ⟨by omega, hl3, SynsG.cons hx hxs⟩
theorem argsGo_g {rs : List Rd} (hA : Asc n T) (hr : ∀ r ∈ rs, GR n T r) (hi : i < T.length) (hb : b ≤ (tk T i).pos) : GoodO n T (SynsG n b) i (argsGo T rs lv i) := by
  cases rs with
  | nil => exact ⟨Nat.le_refl _, hi, fun z h => (List.not_mem_nil h).elim⟩
  | cons r rs =>
    exact (hr r (List.mem_cons_self ..) _ _ _ hi hb).bind (Nat.le_refl _) fun x k hk hl2 hx => (argsMore_g hA (fun r h => hr r (List.mem_cons_of_mem _ h)) _ hl2 (upto hA hb hk hl2)).bind hk fun xs m hm hl3 hxs => ⟨by omega, hl3, SynsG.cons hx hxs⟩
theorem arguments_g {rs : List Rd} {w : Tok} (hA : Asc n T) (hr : ∀ r ∈ rs, GR n T r) (hi : i < T.length) (hb : b ≤ w.pos) (hw : w.pos ≤ (tk T i).pos) (hn : w.pos < n) : GoodO n T (SynG n T b) i (arguments T w rs lv i) :=
  (need_g hA hi).bind (Nat.le_refl _) fun _ j hj hl _ => by
    split
    · exact fail_g hA hl
    · exact (argsGo_g hA hr hl (upto hA hw hj hl)).bind hj fun xs k hk hl2 hxs => (need_g hA hl2).bind (Nat.le_trans hj hk) fun _ m hm hl3 _ => ⟨by omega, hl3, node_g hb (upto hA hw (by omega) hl3) hn (l := k) hxs⟩
theorem binary_g {op : List UInt8} {num : Int} {x y : Syn} {j k l : Nat} (hx : SynG n T b x j) (hy : SynG n T x.pos y k) (hl : x.pos ≤ (tk T l).pos) : SynG n T b (binary op num x y) l := by
  have ho : x.pos < n := by
    have := hx.2.2
    cases this with
    | mk h _ _ => exact h
  exact node_g (l := 0) hx.1 hl ho fun z hz => by
    rcases List.mem_cons.1 hz with rfl | hz
    · exact ⟨Int.le_refl _, hx.2.2⟩
    · rw [List.mem_singleton.1 hz]; exact ⟨hy.1, hy.2.2⟩
theorem leftLoop_g {r : Rd} {ops : List (List UInt8)} (hA : Asc n T) (h : GR n T r) (g : Nat) : ∀ x i, i < T.length → SynG n T b x i → GoodO n T (SynG n T b) i (leftLoop T r ops lv g x i) := by
  induction g with
  | zero => intro x i _ _; trivial
  | succ g ih =>
    intro x i hi hx
    unfold leftLoop
    split
    · have h1 := nx_lt0 (T := T) hi
      have h2 := nx_le0 (T := T) (i := i)
      exact (h _ _ x.pos h1 (upto hA hx.2.1 h2 h1)).bind h2 fun y j hj hl hy => (ih _ _ hl (binary_g hx hy (upto hA hx.2.1 (by omega) hl))).back (by omega) fun _ _ _ _ h => h
    · exact ⟨Nat.le_refl _, hi, hx⟩
theorem left_g {r : Rd} {ops : List (List UInt8)} (hA : Asc n T) (h : GR n T r) : GR n T (left T r ops) := fun lv i b hi hb => (h _ _ _ hi hb).bind (Nat.le_refl _) fun x j hj hl hx => (leftLoop_g hA h _ _ _ hl hx).back hj fun _ _ _ _ h => h
theorem setLoop_g (hA : Asc n T) (g : Nat) : ∀ xs i, i < T.length → b ≤ (tk T i).pos → SynsG n b xs i → GoodO n T (SynsG n b) i (setLoop T g xs i) := by
  induction g with
  | zero => intro x i _ _ _; trivial
  | succ g ih =>
    intro xs i hi hb hx
    unfold setLoop
    split
    · have h1 := nx_lt0 (T := T) hi
      have h2 := nx_le0 (T := T) (i := i)
      exact (number_g hA h1 (upto hA hb h2 h1)).bind h2 fun y j hj hl hy => (ih _ _ hl (upto hA hb (by omega) hl) (hx.add hy)).back (by omega) fun _ _ _ _ h => h
    · exact ⟨Nat.le_refl _, hi, hx⟩
theorem set_g (hA : Asc n T) (hi : i < T.length) (hb : b ≤ (tk T i).pos) : GoodO n T (SynG n T b) i (setR T i) := by
  have h1 := nx_lt0 (T := T) hi
  have h2 := nx_le0 (T := T) (i := i)
  unfold setR
  split
  · rename_i h
    exact ⟨h2, h1, leaf_g hb (hA.mono _ _ h2 h1) (hA.inn i hi (isW_k h))⟩
  · refine (need_g hA hi).bind (Nat.le_refl _) fun t j hj hl ht => ?_
    have hn : (tk T i).pos < n := by rw [← ht.1]; exact ht.2.1
    split
    · have h3 := nx_lt0 (T := T) hl
      have h4 := nx_le0 (T := T) (i := j)
      exact ⟨by omega, h3, leaf_g hb (hA.mono _ _ (by omega) h3) hn⟩
    · exact (number_g hA hl (hA.mono i j hj hl)).bind hj fun x k hk hl2 hx => (setLoop_g hA _ [x] _ hl2 (hA.mono i k (by omega) hl2) (syns1 (l := k) hx)).bind (by omega) fun xs m hm hl3 hxs => (need_g hA hl3).bind (by omega) fun _ p hp hl4 _ => ⟨by omega, hl4, node_g hb (hA.mono _ _ (by omega) hl4) hn (l := 0) hxs⟩
theorem notR_g {r : Rd} (hA : Asc n T) (h : GR n T r) (hi : i < T.length) (hb : b ≤ (tk T i).pos) (hk : (tk T i).kind ≠ 3) : GoodO n T (SynG n T b) i (notR T r lv i) := by
  have h1 := nx_lt0 (T := T) hi
  have h2 := nx_le0 (T := T) (i := i)
  exact (within_g hA h h1 (hA.mono i _ h2 h1)).bind h2 fun x j hj hl hx => ⟨by omega, hl, node_g hb (hA.mono _ _ (by omega) hl) (hA.inn i hi hk) (l := 0) (syns1 hx)⟩
theorem rd_g (hA : Asc n T) (f : Nat) : ∀ nt, GR n T (rd res T f nt) := by
  induction f with
  | zero => intro nt lv i b _ _; trivial
  | succ f ih =>
    have one : ∀ r : Rd, GR n T r → ∀ q ∈ [r], GR n T q := fun r h q hq => by rw [List.mem_singleton.1 hq]; exact h
    have two : ∀ r p : Rd, GR n T r → GR n T p → ∀ q ∈ [r, p], GR n T q := fun r p h h' q hq => by
      rcases List.mem_cons.1 hq with rfl | hq
      · exact h
      · rw [List.mem_singleton.1 hq]; exact h'
    have num : GR n T (fun _ => number T) := fun _ _ _ hi hb => number_g hA hi hb
    have set : GR n T (fun _ => setR T) := fun _ _ _ hi hb => set_g hA hi hb
    have bin : ∀ {lv i j : Nat} {b : Int} {x : Syn} {r : Rd} {op : List UInt8} {num : Int}, GR n T r → i ≤ j → j < T.length → SynG n T b x j → i ≤ i → GoodO n T (SynG n T b) i ((r lv (nx T j)).bind fun y l => .ok (binary op num x y) l) := fun {lv i j b x r op num} h hj hl hx _ => by
      have h3 := nx_lt0 (T := T) hl
      have h4 := nx_le0 (T := T) (i := j)
      exact (h _ _ x.pos h3 (upto hA hx.2.1 h4 h3)).bind (by omega) fun y k hk hl2 hy => ⟨by omega, hl2, binary_g hx hy (upto hA hx.2.1 (by omega) hl2)⟩
    intro nt
    cases nt with
    | cond => exact left_g hA (ih _)
    | conj => exact left_g hA (ih _)
    | sum => exact left_g hA (ih _)
    | scheme => exact left_g hA (ih _)
    | term => exact left_g hA (ih _)
    | disj => exact left_g hA (ih _)
    | meet => exact left_g hA (ih _)
    | neg =>
      intro lv i b hi hb
      have h1 := nx_lt0 (T := T) hi
      have h2 := nx_le0 (T := T) (i := i)
      rw [rd]
      dsimp only
      split
      · rename_i h
        exact notR_g hA (ih _) hi hb (isW_k h)
      split
      · rename_i h
        exact (name_g hA h1 (hA.mono i _ h2 h1)).bind h2 fun v j hj hl hv => (need_g hA hl).bind (by omega) fun _ k hk hl2 _ => (within_g hA (ih _) hl2 (hA.mono i k (by omega) hl2)).bind (by omega) fun x m hm hl3 hx => ⟨by omega, hl3, node_g hb (hA.mono _ _ (by omega) hl3) (hA.inn i hi (isW_k h)) (l := 0) (SynsG.cons hv (syns1 (l := 0) hx))⟩
      · refine (ih .sum _ _ _ hi hb).bind (Nat.le_refl _) fun x j hj hl hx => ?_
        split
        · exact bin (ih .sum) hj hl hx (Nat.le_refl _)
        · exact ⟨hj, hl, hx⟩
    | unit =>
      intro lv i b hi hb
      have h1 := nx_lt0 (T := T) hi
      have h2 := nx_le0 (T := T) (i := i)
      have hm := hA.mono i _ h2 h1
      have args : ∀ {rs : List Rd}, (∀ r ∈ rs, GR n T r) → (tk T i).kind ≠ 3 → GoodO n T (SynG n T b) i (arguments T (tk T i) rs lv (nx T i)) := fun h hk => (arguments_g hA h h1 hb hm (hA.inn i hi hk)).back h2 fun _ _ _ _ h => h
      rw [rd]
      dsimp only
      split
      · exact number_g hA hi hb
      split
      · exact args (one _ (ih _)) (isW_k (by assumption))
      split
      · exact args (two _ _ (ih _) (ih _)) (isW_k (by assumption))
      split
      · rename_i h
        exact (name_g hA h1 hm).bind h2 fun v j hj hl hv => (parens_g hA (ih _) hl (hA.mono i j (by omega) hl)).bind (by omega) fun x m hm hl3 hx => ⟨by omega, hl3, node_g hb (hA.mono _ _ (by omega) hl3) (hA.inn i hi (isW_k h)) (l := 0) (SynsG.cons hv (syns1 (l := 0) hx))⟩
      split
      · exact parens_g hA (ih _) hi hb
      · exact name_g hA hi hb
    | factor =>
      intro lv i b hi hb
      rw [rd]
      dsimp only
      refine (ih .atom _ _ _ hi hb).bind (Nat.le_refl _) fun x j hj hl hx => ?_
      have h3 := nx_lt0 (T := T) hl
      have h4 := nx_le0 (T := T) (i := j)
      split
      · exact (number_g hA h3 (hA.mono _ _ h4 h3)).bind (by omega) fun _ k hk hl2 _ => (within_g hA (ih _) hl2 (upto hA hx.2.1 (by omega) hl2)).bind (by omega) fun y m hm hl3 hy => ⟨by omega, hl3, binary_g hx hy (upto hA hx.2.1 (by omega) hl3)⟩
      · exact ⟨hj, hl, hx⟩
    | atom =>
      intro lv i b hi hb
      have h1 := nx_lt0 (T := T) hi
      have h2 := nx_le0 (T := T) (i := i)
      have hm := hA.mono i _ h2 h1
      have args : ∀ {rs : List Rd}, (∀ r ∈ rs, GR n T r) → (tk T i).kind ≠ 3 → GoodO n T (SynG n T b) i (arguments T (tk T i) rs lv (nx T i)) := fun h hk => (arguments_g hA h h1 hb hm (hA.inn i hi hk)).back h2 fun _ _ _ _ h => h
      rw [rd]
      dsimp only
      split
      · exact args (one _ num) (isW_k (by assumption))
      split
      · exact ⟨h2, h1, leaf_g hb hm (hA.inn i hi (isW_k (by assumption)))⟩
      split
      · exact args (one _ (ih _)) (isW_k (by assumption))
      split
      · exact parens_g hA (ih _) hi hb
      · exact name_g hA hi hb
    | formula =>
      intro lv i b hi hb
      rw [rd]
      dsimp only
      refine (ih .disj _ _ _ hi hb).bind (Nat.le_refl _) fun x j hj hl hx => ?_
      have h3 := nx_lt0 (T := T) hl
      have h4 := nx_le0 (T := T) (i := j)
      split
      · exact (within_g hA (ih _) h3 (upto hA hx.2.1 h4 h3)).bind (by omega) fun y m hm hl3 hy => ⟨by omega, hl3, binary_g hx hy (upto hA hx.2.1 (by omega) hl3)⟩
      · exact ⟨hj, hl, hx⟩
    | lit =>
      intro lv i b hi hb
      have h1 := nx_lt0 (T := T) hi
      have h2 := nx_le0 (T := T) (i := i)
      have hm := hA.mono i _ h2 h1
      have args : ∀ {rs : List Rd}, (∀ r ∈ rs, GR n T r) → (tk T i).kind ≠ 3 → GoodO n T (SynG n T b) i (arguments T (tk T i) rs lv (nx T i)) := fun h hk => (arguments_g hA h h1 hb hm (hA.inn i hi hk)).back h2 fun _ _ _ _ h => h
      rw [rd]
      dsimp only
      split
      · exact notR_g hA (ih _) hi hb (isW_k (by assumption))
      split
      · exact ⟨h2, h1, leaf_g hb hm (hA.inn i hi (isW_k (by assumption)))⟩
      split
      · exact parens_g hA (ih _) hi hb
      split
      · exact args (two _ _ num num) (isW_k (by assumption))
      split
      · exact args (one _ num) (isW_k (by assumption))
      split
      · exact args (two _ _ num (ih _)) (isW_k (by assumption))
      split
      · exact args (two _ _ set (ih _)) (isW_k (by assumption))
      split
      · exact args (one _ (ih _)) (isW_k (by assumption))
      · exact fail_g hA hi
theorem part_g {f : Nat} {k : Int} (hA : Asc n T) (hi : i < T.length) (hb : b ≤ (tk T i).pos) (hk : (tk T i).kind ≠ 3) : GoodO n T (SynG n T b) i (part res T f k lv i) := by
  have h1 := nx_lt0 (T := T) hi
  have h2 := nx_le0 (T := T) (i := i)
  exact (rd_g hA f _ _ _ _ h1 (hA.mono i _ h2 h1)).bind h2 fun x j hj hl hx => ⟨by omega, hl, node_g hb (hA.mono _ _ (by omega) hl) (hA.inn i hi hk) (l := 0) (syns1 hx)⟩
theorem opt_g {f : Nat} {w : List UInt8} {k : Int} {xs : List Syn} (hA : Asc n T) (hi : i < T.length) (hb : b ≤ (tk T i).pos) (hx : SynsG n b xs 0) : GoodO n T (SynsG n b) i (optPart res T f w k xs lv i) := by
  unfold optPart
  split
  · exact (part_g hA hi hb (isW_k (by assumption))).bind (Nat.le_refl _) fun y j hj hl hy => ⟨hj, hl, hx.add hy⟩
  · exact ⟨Nat.le_refl _, hi, hx⟩
theorem decl_g {f : Nat} (hA : Asc n T) (hi : i < T.length) (hb : b ≤ (tk T i).pos) : GoodO n T (SynG n T b) i (declaration res T f lv i) := by
  have h1 := nx_lt0 (T := T) hi
  have h2 := nx_le0 (T := T) (i := i)
  have hm : ∀ {j}, i ≤ j → j < T.length → (tk T i).pos ≤ (tk T j).pos := fun hj hl => hA.mono i _ hj hl
  unfold declaration
  refine GoodO.bind (P := SynG n T b) (i := i) ?_ (Nat.le_refl _) fun x j hj hl hx => (need_g hA hl).bind hj fun _ k hk hl2 _ => ⟨by omega, hl2, hx.on hA hk hl2⟩
  split
  · have hn := hA.inn i hi (isW_k (by assumption))
    refine (name_g hA h1 (hm h2 h1)).bind h2 fun _ j1 g1 l1 _ => (need_g hA l1).bind (by omega) fun _ j2 g2 l2 _ => (number_g hA l2 (hm (by omega) l2)).bind (by omega) fun _ j3 g3 l3 _ => (need_g hA l3).bind (by omega) fun _ j4 g4 l4 _ => (number_g hA l4 (hm (by omega) l4)).bind (by omega) fun y j5 g5 l5 hy => (opt_g hA l5 (hm (by omega) l5) (syns1 hy)).bind (by omega) fun xs j6 g6 l6 hxs => ?_
    split
    · exact (part_g hA l6 (hm (by omega) l6) (isW_k (by assumption))).bind (by omega) fun z j7 g7 l7 hz => (opt_g hA l7 (hm (by omega) l7) (hxs.add hz)).bind (by omega) fun ys j8 g8 l8 hys => ⟨by omega, l8, node_g hb (hm (by omega) l8) hn (l := 0) hys⟩
    · exact fail_g hA l6
  split
  · have hn := hA.inn i hi (isW_k (by assumption))
    exact (name_g hA h1 (hm h2 h1)).bind h2 fun _ j1 g1 l1 _ => (need_g hA l1).bind (by omega) fun _ j2 g2 l2 _ => (rd_g hA f _ _ _ _ l2 (hm (by omega) l2)).bind (by omega) fun y j3 g3 l3 hy => ⟨by omega, l3, node_g hb (hm (by omega) l3) hn (l := 0) (syns1 hy)⟩
  split
  · have hn := hA.inn i hi (isW_k (by assumption))
    exact (name_g hA h1 (hm h2 h1)).bind h2 fun _ j1 g1 l1 _ => (need_g hA l1).bind (by omega) fun _ j2 g2 l2 _ => (rd_g hA f _ _ _ _ l2 (hm (by omega) l2)).bind (by omega) fun y j3 g3 l3 hy => ⟨by omega, l3, node_g hb (hm (by omega) l3) hn (l := 0) (syns1 hy)⟩
  split
  · have hn := hA.inn i hi (isW_k (by assumption))
    exact (name_g hA h1 (hm h2 h1)).bind h2 fun _ j1 g1 l1 _ => (need_g hA l1).bind (by omega) fun _ j2 g2 l2 _ => (name_g hA l2 (hm (by omega) l2)).bind (by omega) fun u j3 g3 l3 hu => (need_g hA l3).bind (by omega) fun _ j4 g4 l4 _ => (name_g hA l4 (hm (by omega) l4)).bind (by omega) fun v j5 g5 l5 hv => (need_g hA l5).bind (by omega) fun _ j6 g6 l6 _ => (number_g hA l6 (hm (by omega) l6)).bind (by omega) fun _ j7 g7 l7 _ => ⟨by omega, l7, node_g hb (hm (by omega) l7) hn (l := 0) (SynsG.cons hu (syns1 (l := 0) hv))⟩
  · exact fail_g hA hi
theorem declLoop_g {f : Nat} (hA : Asc n T) (g : Nat) : ∀ xs i, i < T.length → b ≤ (tk T i).pos → SynsG n b xs 0 → GoodO n T (SynsG n b) i (declLoop res T f lv g xs i) := by
  induction g with
  | zero => intro x i _ _ _; trivial
  | succ g ih =>
    intro xs i hi hb hx
    unfold declLoop
    split
    · exact ⟨Nat.le_refl _, hi, hx⟩
    · exact (decl_g hA hi hb).bind (Nat.le_refl _) fun y j hj hl hy => (ih _ _ hl (upto hA hb hj hl) (hx.add hy)).back hj fun _ _ _ _ h => h
theorem program_g {f : Nat} (hA : Asc n T) : GR n T (program res T f) := fun lv i b hi hb =>
  (need_g hA hi).bind (Nat.le_refl _) fun t j1 g1 l1 ht => (number_g hA l1 (hA.mono i _ g1 l1)).bind g1 fun _ j2 g2 l2 _ => (need_g hA l2).bind (by omega) fun _ j3 g3 l3 _ => (declLoop_g hA _ [] _ l3 (hA.mono i _ (by omega) l3) (fun z h => (List.not_mem_nil h).elim)).bind (by omega) fun xs j4 g4 l4 hxs => by
    obtain ⟨rfl, hn, _⟩ := ht
    exact ⟨by omega, l4, node_g hb (hA.mono _ _ (by omega) l4) hn (l := 0) hxs⟩
theorem whole_g {r : Rd} (hA : Asc n T) (h : GR n T r) (hT : 0 < T.length) : GoodO n T (fun x _ => 0 ≤ x.pos ∧ Ord n x) 0 (whole T r) := by
  unfold whole
  refine (h 0 0 0 hT (hA.low 0 hT)).bind (Nat.le_refl _) fun x j hj hl hx => ?_
  split
  · exact ⟨hj, hl, hx.1, hx.2.2⟩
  · exact fail_g hA hl
end
end Go.Proofs.YtplbfmcgddnkeaaGreatDoor
end
section
namespace Go.Proofs.YtplbfmcgddnkeaaGreatDoor
theorem stand_asc (s : List UInt8) : ∀ (ts : List Tok) (p : Nat), Stand s p ts → (∀ j, j < ts.length → (p : Int) ≤ (tk ts j).pos ∧ (tk ts j).pos + (tk ts j).text.length ≤ s.length) ∧ ∀ i j, i ≤ j → j < ts.length → (tk ts i).pos ≤ (tk ts j).pos
  | [], p, _ => ⟨fun j h => absurd h (Nat.not_lt_zero _), fun i j _ h => absurd h (Nat.not_lt_zero _)⟩
  | t :: r, p, h => by
    obtain ⟨h1, h2, h3, h4, h5⟩ := h
    obtain ⟨q1, q2⟩ := stand_asc s r _ h5
    have e : ∀ j, tk (t :: r) (j + 1) = tk r j := fun j => rfl
    have e0 : tk (t :: r) 0 = t := rfl
    refine ⟨fun j hj => ?_, fun i j hij hj => ?_⟩
    · cases j with
      | zero => rw [e0, h1]; omega
      | succ j =>
        have := q1 j (by simpa using hj)
        rw [e]; omega
    · cases j with
      | zero =>
        obtain rfl : i = 0 := by omega
        exact Int.le_refl _
      | succ j =>
        have hj' : j < r.length := by simpa using hj
        cases i with
        | zero =>
          have := q1 j hj'
          rw [e0, e, h1]; omega
        | succ i => rw [e, e]; exact q2 i j (by omega) hj'
theorem scan_asc {s : List UInt8} {T : List Tok} (h : scan s = .ok T) : Asc s.length T := by
  obtain ⟨q1, q2⟩ := stand_asc s T 0 (scan_stand h).1
  obtain ⟨C, hC, hx⟩ := scan_toks h
  refine ⟨q2, fun i hi => by have := q1 i hi; omega, fun i hi => by have := q1 i hi; omega, fun i hi hk => ?_⟩
  have h1 := q1 i hi
  have h2 : 0 < (tk T i).text.length := by
    rw [tk_text, hC]
    rw [tk_kind, hC] at hk
    rw [List.getD_eq_getElem?_getD] at hk ⊢
    rcases Nat.lt_or_ge i C.length with hl | hl
    · rw [List.getElem?_append_left hl, List.getElem?_eq_getElem hl]
      obtain ⟨k, _, ht⟩ := hx _ (List.getElem_mem hl)
      have := (tok_pos ht).1
      simpa using this
    · rw [List.getElem?_append_right hl] at hk
      exfalso
      apply hk
      cases hq : i - C.length with
      | zero => rfl
      | succ n => simp
  omega
end Go.Proofs.YtplbfmcgddnkeaaGreatDoor
end
