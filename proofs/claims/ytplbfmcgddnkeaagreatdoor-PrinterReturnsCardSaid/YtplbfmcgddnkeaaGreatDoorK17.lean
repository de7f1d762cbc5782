/- Joined: Wi, Alk, Sub, Cat, Wg, Wq. -/
import Derived.Test.YtplbfmcgddnkeaaGreatDoorK07
import Derived.Test.YtplbfmcgddnkeaaGreatDoorK02
import Derived.Test.YtplbfmcgddnkeaaGreatDoorK15
import Derived.Test.YtplbfmcgddnkeaaGreatDoorK08
import Derived.Test.YtplbfmcgddnkeaaGreatDoorK16
import Derived.Test.YtplbfmcgddnkeaaGreatDoorK03
set_option linter.unusedVariables false
set_option linter.unusedSimpArgs false
section
set_option maxHeartbeats 1000000
set_option maxRecDepth 100000
namespace Go.Proofs.YtplbfmcgddnkeaaGreatDoor
section
variable {P : Int → Int → Prop}
theorem tw_num {x y : Syn} (h : Twin P x y) : isNum x = isNum y := by
  cases h with
  | mk hp h => cases h <;> rfl
theorem tw_nm {x y : Syn} (h : Twin P x y) : isNm x = isNm y := by
  cases h with
  | mk hp h => cases h <;> rfl
theorem tw_all {b : Syn → Bool} (hb : ∀ x y, Twin P x y → b x = b y) : ∀ {k l : List Syn}, TwinL P k l → k.all b = l.all b
  | _, _, .nil => rfl
  | _, _, .cons h hr => by rw [List.all_cons, List.all_cons, hb _ _ h, tw_all hb hr]
theorem tw_empty {k l : List Syn} (h : TwinL P k l) : k.isEmpty = l.isEmpty := by cases h <;> rfl
theorem tw_set {x y : Syn} (h : Twin P x y) : isSet x = isSet y := by
  unfold isSet
  rw [h.kind_eq, h.text_eq, h.num_eq, tw_all (fun _ _ => tw_num) h.kids_rel, tw_empty h.kids_rel]
theorem tw_lvl {k : Nat} {x y : Syn} (h : Twin P x y) : lvl k x = lvl k y := by
  unfold lvl
  rw [h.kind_eq, h.text_eq]
theorem tw_decs {k l : List Syn} (h : TwinL P k l) : (k.map fun x => dec x.num.toNat) = l.map fun x => dec x.num.toNat := by
  match k, l, h with
  | _, _, .nil => rfl
  | _, _, .cons h hr => rw [List.map_cons, List.map_cons, h.num_eq, tw_decs hr]
theorem tw_arg {x y : Syn} (h : Twin P x y) : warg x = warg y := by
  unfold warg wset
  rw [h.kind_eq, h.text_eq, h.num_eq, tw_decs h.kids_rel]
theorem tw_c : ∀ (m : Nat) (x y : Syn), SizeOf.sizeOf x < m → Twin P x y → okc x = okc y ∧ wrc x = wrc y ∧ opn x = opn y := by
  intro m
  induction m with
  | zero => intro x y h; omega
  | succ m ih =>
    intro x y hm h
    cases h with
    | mk hp h =>
      simp only [Syn.mk.sizeOf_spec] at hm
      cases h with
      | nil => exact ⟨rfl, rfl, rfl⟩
      | cons h hr =>
        cases hr with
        | nil =>
          simp only [List.cons.sizeOf_spec, List.nil.sizeOf_spec] at hm
          obtain ⟨h1, h2, h3⟩ := ih _ _ (by omega) h
          refine ⟨?_, ?_, ?_⟩
          · simp only [okc, h1]
          · simp only [wrc, h2, tw_lvl h]
          · simp only [opn, h3, tw_lvl h]
        | cons h' hr =>
          simp only [List.cons.sizeOf_spec] at hm
          obtain ⟨h1, h2, h3⟩ := ih _ _ (by omega) h
          obtain ⟨k1, k2, k3⟩ := ih _ _ (by omega) h'
          cases hr with
          | nil =>
            refine ⟨?_, ?_, ?_⟩
            · simp only [okc, h1, k1, tw_nm h]
            · simp only [wrc, h2, k2, tw_lvl h, tw_lvl h', h.text_eq, looseB, h3]
            · simp only [opn, k3, tw_lvl h']
          | cons => exact ⟨rfl, rfl, rfl⟩
theorem tw_s : ∀ (m : Nat) (x y : Syn), SizeOf.sizeOf x < m → Twin P x y → oks x = oks y ∧ wrs x = wrs y := by
  intro m
  induction m with
  | zero => intro x y h; omega
  | succ m ih =>
    intro x y hm h
    cases h with
    | mk hp h =>
      simp only [Syn.mk.sizeOf_spec] at hm
      cases h with
      | nil => exact ⟨rfl, rfl⟩
      | cons h hr =>
        cases hr with
        | nil =>
          obtain ⟨h1, h2, -⟩ := tw_c _ _ _ (Nat.lt_succ_self _) h
          refine ⟨?_, ?_⟩
          · simp only [oks, h1, tw_num h]
          · simp only [wrs, h2]
        | cons h' hr =>
          simp only [List.cons.sizeOf_spec] at hm
          obtain ⟨h1, h2⟩ := ih _ _ (by omega) h
          obtain ⟨k1, k2⟩ := ih _ _ (by omega) h'
          cases hr with
          | nil =>
            refine ⟨?_, ?_⟩
            · simp only [oks, h1, k1]
            · simp only [wrs, h2, k2, tw_lvl h, tw_lvl h']
          | cons => exact ⟨rfl, rfl⟩
theorem tw_f : ∀ (m : Nat) (x y : Syn), SizeOf.sizeOf x < m → Twin P x y → okf x = okf y ∧ wrf x = wrf y := by
  intro m
  induction m with
  | zero => intro x y h; omega
  | succ m ih =>
    intro x y hm h
    cases h with
    | mk hp h =>
      simp only [Syn.mk.sizeOf_spec] at hm
      cases h with
      | nil => exact ⟨rfl, rfl⟩
      | cons h hr =>
        cases hr with
        | nil =>
          simp only [List.cons.sizeOf_spec, List.nil.sizeOf_spec] at hm
          obtain ⟨h1, h2⟩ := ih _ _ (by omega) h
          refine ⟨?_, ?_⟩
          · simp only [okf, h1, tw_num h]
          · simp only [wrf, h2, tw_lvl h, tw_arg h]
        | cons h' hr =>
          simp only [List.cons.sizeOf_spec] at hm
          obtain ⟨h1, h2⟩ := ih _ _ (by omega) h
          obtain ⟨k1, k2⟩ := ih _ _ (by omega) h'
          cases hr with
          | nil =>
            refine ⟨?_, ?_⟩
            · simp only [okf, h1, k1, tw_num h, tw_num h', tw_set h]
            · simp only [wrf, h2, k2, tw_lvl h, tw_lvl h', tw_arg h, tw_arg h']
          | cons => exact ⟨rfl, rfl⟩
theorem tw_okc {x y : Syn} (h : Twin P x y) : okc x = okc y := (tw_c _ _ _ (Nat.lt_succ_self _) h).1
theorem tw_wrc {x y : Syn} (h : Twin P x y) : wrc x = wrc y := (tw_c _ _ _ (Nat.lt_succ_self _) h).2.1
theorem tw_oks {x y : Syn} (h : Twin P x y) : oks x = oks y := (tw_s _ _ _ (Nat.lt_succ_self _) h).1
theorem tw_wrs {x y : Syn} (h : Twin P x y) : wrs x = wrs y := (tw_s _ _ _ (Nat.lt_succ_self _) h).2
theorem tw_okf {x y : Syn} (h : Twin P x y) : okf x = okf y := (tw_f _ _ _ (Nat.lt_succ_self _) h).1
theorem tw_wrf {x y : Syn} (h : Twin P x y) : wrf x = wrf y := (tw_f _ _ _ (Nat.lt_succ_self _) h).2
theorem tw_part {k : Int} {x y : Syn} (h : Twin P x y) : partB k x = partB k y := by
  unfold partB
  rw [h.kind_eq, h.text_eq, h.num_eq]
  have := h.kids_rel
  revert this
  generalize x.kids = l
  generalize y.kids = m
  intro h
  cases h with
  | nil => rfl
  | cons h hr => cases hr with
    | nil => simp only [tw_okc h]
    | cons => rfl
theorem tw_task {k l : List Syn} (h : TwinL P k l) : taskB k = taskB l := by
  have e : ∀ (a b : Bool) {k l : List Syn}, a = b → TwinL P k l → (a && match some k with | none => false | some [] => false | some [b] => partB 3 b | some [b, c] => partB 3 b && partB 4 c | some (_ :: _ :: _ :: _) => false) =
      (b && match some l with | none => false | some [] => false | some [b] => partB 3 b | some [b, c] => partB 3 b && partB 4 c | some (_ :: _ :: _ :: _) => false) := by
    intro a b k l e h
    subst e
    cases h with
    | nil => rfl
    | cons h hr => cases hr with
      | nil => simp only [tw_part h]
      | cons h' hr => cases hr with
        | nil => simp only [tw_part h, tw_part h']
        | cons => rfl
  cases h with
  | nil => rfl
  | cons h hr =>
    unfold taskB
    cases hr with
    | nil => exact e _ _ (tw_num h) .nil
    | cons h' hr =>
      rename_i y' _ _
      simp only [h'.kind_eq, tw_part (k := 2) h']
      by_cases hk : y'.kind = 2
      · simp only [hk, if_true]
        cases partB 2 y'
        · simp [tw_num h]
        · exact e _ _ (tw_num h) hr
      · simp only [hk, if_false]
        exact e _ _ (tw_num h) (.cons h' hr)
theorem tw_decl {x y : Syn} (h : Twin P x y) : declB x = declB y := by
  unfold declB
  rw [h.kind_eq, h.text_eq, h.num_eq]
  have hk := h.kids_rel
  rw [tw_task hk]
  revert hk
  generalize x.kids = l
  generalize y.kids = m
  intro h
  cases h with
  | nil => rfl
  | cons h hr => cases hr with
    | nil => simp only [tw_oks h, tw_okf h]
    | cons h' hr => cases hr with
      | nil => simp only [tw_nm h, tw_nm h']
      | cons => rfl
theorem tw_prog {x y : Syn} (h : Twin P x y) : progB x = progB y := by
  unfold progB
  rw [h.kind_eq, h.text_eq, h.num_eq, tw_all (fun _ _ => tw_decl) h.kids_rel]
theorem tw_head {k l : List Syn} (h : TwinL P k l) (hP : P 0 0) : Twin P (k.headD synNil) (l.headD synNil) := by
  cases h with
  | nil => exact .mk hP .nil
  | cons h _ => exact h
theorem tw_drop {k l : List Syn} (h : TwinL P k l) : TwinL P (k.drop 1) (l.drop 1) := by
  cases h with
  | nil => exact .nil
  | cons _ h => exact h
theorem tw_flat {f : Syn → List UInt8} (hf : ∀ x y, Twin P x y → f x = f y) : ∀ {k l : List Syn}, TwinL P k l → k.flatMap f = l.flatMap f
  | _, _, .nil => rfl
  | _, _, .cons h hr => by rw [List.flatMap_cons, List.flatMap_cons, hf _ _ h, tw_flat hf hr]
theorem tw_wpart {x y : Syn} (hP : P 0 0) (h : Twin P x y) : wpart x = wpart y := by
  unfold wpart
  have h0 := tw_wrc (tw_head h.kids_rel hP)
  unfold kid0
  rw [h.kind_eq, h0]
theorem tw_wdecl {x y : Syn} (hP : P 0 0) (h : Twin P x y) : wdecl x = wdecl y := by
  unfold wdecl kid0 kid1
  have h0 := tw_head h.kids_rel hP
  have h1 := tw_head (tw_drop h.kids_rel) hP
  rw [h.kind_eq, h.text_eq, h.num_eq, h0.num_eq, h0.text_eq, h1.text_eq, tw_wrs h0, tw_wrf h0, tw_flat (fun _ _ => tw_wpart hP) (tw_drop h.kids_rel)]
theorem tw_wprog {x y : Syn} (hP : P 0 0) (h : Twin P x y) : wprog x = wprog y := by
  unfold wprog
  rw [h.num_eq, tw_flat (fun _ _ => tw_wdecl hP) h.kids_rel]
end
end Go.Proofs.YtplbfmcgddnkeaaGreatDoor
end
section
namespace Go.Proofs.YtplbfmcgddnkeaaGreatDoor
structure AlkT (T U : List Tok) : Prop where
  len : T.length = U.length
  kind : ∀ i, (tk T i).kind = (tk U i).kind
  text : ∀ i, (tk T i).text = (tk U i).text
abbrev Any : Int → Int → Prop := fun _ _ => True
def TwO {α β : Type} (R : α → β → Prop) (o : Out α) (u : Out β) : Prop :=
  match o, u with | .none, .none => True | .err _ e, .err _ f => e = f | .ok a i, .ok b j => i = j ∧ R a b | _, _ => False
theorem TwO.bind {α β γ δ : Type} {R : α → β → Prop} {Q : γ → δ → Prop} {o : Out α} {u : Out β} {f : α → Nat → Out γ} {g : β → Nat → Out δ} (h : TwO R o u) (hf : ∀ a b i, R a b → TwO Q (f a i) (g b i)) : TwO Q (o.bind f) (u.bind g) := by
  cases o <;> cases u <;> simp only [TwO] at h
  · exact h
  · exact h
  · obtain ⟨rfl, h⟩ := h
    exact hf _ _ _ h
abbrev TwS (o u : Out Syn) : Prop := TwO (Twin Any) o u
section
variable {T U : List Tok} {res : List UInt8 → Bool} {lv i : Nat}
theorem AlkT.isW (h : AlkT T U) (ws : List (List UInt8)) (i : Nat) : isW T ws i = Proofs.YtplbfmcgddnkeaaGreatDoor.isW U ws i := by unfold Proofs.YtplbfmcgddnkeaaGreatDoor.isW; rw [h.kind, h.text]
theorem AlkT.nx (h : AlkT T U) (i : Nat) : nx T i = Proofs.YtplbfmcgddnkeaaGreatDoor.nx U i := by unfold Proofs.YtplbfmcgddnkeaaGreatDoor.nx; rw [h.len]
def KR (r q : Rd) : Prop := ∀ lv i, TwS (r lv i) (q lv i)
inductive KRs : List Rd → List Rd → Prop
  | nil : KRs [] []
  | cons {r q : Rd} {rs qs : List Rd} (h : KR r q) (hr : KRs rs qs) : KRs (r :: rs) (q :: qs)
end
end Go.Proofs.YtplbfmcgddnkeaaGreatDoor
end
section
namespace Go.Proofs.YtplbfmcgddnkeaaGreatDoor
def goesOn : List (List (List UInt8)) := [[kOr], [kAnd], [[43], [45]], [[61], [33, 61], [60], [60, 61]], [[116, 104, 101, 110]], [[117, 110, 116, 105, 108]], [[44]]]
structure SubT (T U : List Tok) (m d : Nat) : Prop where
  len : T.length = m + 1
  lst : (tk T m).kind = 3
  inn : ∀ i, i < m → (tk T i).kind ≠ 3
  ulen : m + d < U.length
  kind : ∀ i, i < m → (tk T i).kind = (tk U (i + d)).kind
  text : ∀ i, i < m → (tk T i).text = (tk U (i + d)).text
  stop : ∀ ws ∈ goesOn, isW U ws (m + d) = false
def SimO {α β : Type} (m d dl : Nat) (R : α → β → Prop) (o : Out α) (u : Out β) : Prop :=
  match o with
  | .ok a j => match u with | .ok b l => j ≤ m ∧ l = j + d ∧ R a b | .err _ e => e = 12 ∧ 0 < dl | .none => False
  | _ => True
section
variable {T U : List Tok} {res : List UInt8 → Bool} {lv i m d dl : Nat}
theorem SimO.bind {α β γ δ : Type} {R : α → β → Prop} {Q : γ → δ → Prop} {o : Out α} {u : Out β} {f : α → Nat → Out γ} {g : β → Nat → Out δ} (h : SimO m d dl R o u) (hf : ∀ a b j, j ≤ m → R a b → SimO m d dl Q (f a j) (g b (j + d))) : SimO m d dl Q (o.bind f) (u.bind g) := by
  cases o with
  | none => trivial
  | err p e => trivial
  | ok a j =>
    cases u with
    | none => exact h.elim
    | err p e =>
      show SimO m d dl Q (f a j) (.err p e)
      cases f a j with
      | none => trivial
      | err p e => trivial
      | ok b l => exact h
    | ok b l =>
      obtain ⟨h1, rfl, h2⟩ := h
      exact hf _ _ _ h1 h2
theorem SubT.last (h : SubT T U m d) : (tk T (T.length - 1)).kind = 3 := by rw [h.len, Nat.add_sub_cancel]; exact h.lst
theorem SubT.isN (h : SubT T U m d) (ws : List (List UInt8)) : isW T ws m = false := by unfold isW; rw [h.lst]; rfl
theorem SubT.lt (h : SubT T U m d) {ws : List (List UInt8)} (hi : i ≤ m) (hw : isW T ws i = true) : i < m := by
  rcases Nat.lt_or_ge i m with hl | hl
  · exact hl
  · obtain rfl : i = m := by omega
    rw [h.isN] at hw; cases hw
theorem SubT.le (h : SubT T U m d) : T.length ≤ U.length := by have := h.len; have := h.ulen; omega
def BR (m d dl : Nat) (r q : Rd) : Prop := ∀ lv i, i ≤ m → SimO m d dl (Twin Any) (r lv i) (q (lv + dl) (i + d))
inductive BRs (m d dl : Nat) : List Rd → List Rd → Prop
  | nil : BRs m d dl [] []
  | cons {r q : Rd} {rs qs : List Rd} (h : BR m d dl r q) (hr : BRs m d dl rs qs) : BRs m d dl (r :: rs) (q :: qs)
end
end Go.Proofs.YtplbfmcgddnkeaaGreatDoor
end
section
namespace Go.Proofs.YtplbfmcgddnkeaaGreatDoor
abbrev KT := Int × List UInt8
def kts (ts : List Tok) : List KT := ts.map fun t => (t.kind, t.text)
abbrev ktEnd : KT := (3, [])
def Lx (l : List UInt8) (K : List KT) : Prop := ∀ p, ∃ ts, scanL p l = .ok ts ∧ kts ts = K
theorem scan_lx {l : List UInt8} {K : List KT} (h : Lx l K) (hl : l.length ≤ 65536) : ∃ T, scan l = .ok T ∧ kts T = K := by
  obtain ⟨T, h1, h2⟩ := h 0
  exact ⟨T, by rw [scan_eq hl]; exact h1, h2⟩
theorem lx_nil : Lx [] [ktEnd] := fun p => ⟨_, scanL_nil p, rfl⟩
theorem lx_tok {x y : List UInt8} {k : Nat} {K : List KT} (ht : tok x = .ok (k, x.length)) (hf : fits x y) (h : Lx y K) : Lx (x ++ y) (((k : Int), x) :: K) := by
  intro p
  have hne := (tokClass ht).1
  have hs := scanL_ok (p := p) (head_plain ht y) (by simp [hne]) (tok_ext ht hf)
  rw [List.take_append_of_le_length (Nat.le_refl _), List.take_length, List.drop_append_of_le_length (Nat.le_refl _), List.drop_length, List.nil_append] at hs
  obtain ⟨ms, h1, h2⟩ := h (p + x.length)
  rw [h1] at hs
  exact ⟨_, hs, by simp only [List.singleton_append, kts, List.map_cons]; rw [← h2]; rfl⟩
theorem lx_skip {x y : List UInt8} {K : List KT} (hs : skip false (x ++ y) = x.length + skip false y) (h : Lx y K) : Lx (x ++ y) K := by
  intro p
  obtain ⟨ms, h1, h2⟩ := h (p + x.length)
  refine ⟨ms, ?_, h2⟩
  rw [scanL_skip, hs]
  rw [scanL_skip (p + x.length)] at h1
  rw [List.drop_append, List.drop_of_length_le (by omega), List.nil_append, show x.length + skip false y - x.length = skip false y by omega, ← Nat.add_assoc]
  exact h1
theorem lx_blank {b : UInt8} {y : List UInt8} {K : List KT} (hb : isBlank b.toNat = true) (h : Lx y K) : Lx (b :: y) K :=
  lx_skip (x := [b]) (by
    have h35 : ¬ b.toNat = 35 := by intro e; rw [e] at hb; revert hb; decide
    rw [List.singleton_append, skip_ff, if_neg h35, if_pos hb, List.length_singleton, Nat.add_comm]) h
theorem lx_sign {b : UInt8} {y : List UInt8} {K : List KT} (hb : b = 40 ∨ b = 41 ∨ b = 59 ∨ b = 44 ∨ b = 58 ∨ b = 123 ∨ b = 125) (h : Lx y K) : Lx (b :: y) ((2, [b]) :: K) :=
  lx_tok (x := [b]) (k := 2) (by rcases hb with rfl | rfl | rfl | rfl | rfl | rfl | rfl <;> rfl) (fun c hc => by
    rcases hb with rfl | rfl | rfl | rfl | rfl | rfl | rfl <;> exact ⟨fun h => absurd h (by decide), fun h => absurd h.1 (by decide)⟩) h
theorem tk_kind (T : List Tok) (i : Nat) : (tk T i).kind = ((kts T).getD i ktEnd).1 := by
  unfold tk kts
  rw [List.getD_eq_getElem?_getD, List.getD_eq_getElem?_getD, List.getElem?_map]
  cases T[i]? <;> rfl
theorem tk_text (T : List Tok) (i : Nat) : (tk T i).text = ((kts T).getD i ktEnd).2 := by
  unfold tk kts
  rw [List.getD_eq_getElem?_getD, List.getD_eq_getElem?_getD, List.getElem?_map]
  cases T[i]? <;> rfl
theorem kts_len (T : List Tok) : (kts T).length = T.length := by unfold kts; rw [List.length_map]
theorem good_kts {T : List Tok} (h : Good T) : ∃ C, kts T = C ++ [ktEnd] ∧ ∀ x ∈ C, ∃ k : Nat, x.1 = k ∧ tok x.2 = .ok (k, x.2.length) := by
  induction T with
  | nil => exact h.elim
  | cons t r ih =>
    rcases h with ⟨h1, h2, rfl⟩ | ⟨h1, h2⟩
    · exact ⟨[], by simp [kts, h1, h2], fun x hx => (List.not_mem_nil hx).elim⟩
    · obtain ⟨C, hC, hx⟩ := ih h2
      refine ⟨(t.kind, t.text) :: C, by simp only [kts, List.map_cons, List.cons_append]; rw [← hC]; rfl, fun x hm => ?_⟩
      rcases List.mem_cons.1 hm with rfl | hm
      · exact h1
      · exact hx x hm
theorem scan_good {s : List UInt8} {T : List Tok} (h : scan s = .ok T) : Good T := by
  unfold scan at h
  split at h
  · cases h
  · exact (scanGo_good (s.length + 1) 0 s T (by omega) h).1
def Toks (C : List KT) : Prop := ∀ x ∈ C, ∃ k : Nat, x.1 = k ∧ tok x.2 = .ok (k, x.2.length)
theorem Toks.kind {C : List KT} (h : Toks C) {x : KT} (hx : x ∈ C) : x.1 ≠ 3 := by
  obtain ⟨k, h1, h2⟩ := h x hx
  have := tok_kinds h2
  omega
theorem scan_toks {s : List UInt8} {T : List Tok} (h : scan s = .ok T) : ∃ C, kts T = C ++ [ktEnd] ∧ Toks C := good_kts (scan_good h)
end Go.Proofs.YtplbfmcgddnkeaaGreatDoor
end
section
set_option maxHeartbeats 1000000
namespace Go.Proofs.YtplbfmcgddnkeaaGreatDoor
section
variable {T : List Tok} {C lv i : Nat}
theorem part_w {f : Nat} {k : Int} (hA : TT C T) (hi : (tk T i).kind ≠ 3) : WO (QW C (partB k) i) (part reservedB T f k lv i) := by
  unfold part
  rw [hA.nxt i hi]
  refine (rd_w hA f .cond _ _).bind fun x j hx => ⟨?_, ?_⟩
  · have hx := hx.1
    dsimp only [okN] at hx
    simp [partB, Syn.kind, Syn.text, Syn.num, Syn.kids, hx]
  · have h1 := hx.2
    have hc := hA.len i
    rw [mulS] at h1
    rw [mass_mk, massL_cons, massL_nil]; simp only [List.length_nil]; omega
theorem opt_w {f : Nat} {w : List UInt8} {k : Int} {xs : List Syn} {b : Nat} (hA : TT C T) (hx : massL xs + C * b ≤ C * i) : WO (fun ys j => (ys = xs ∨ ∃ y, ys = xs ++ [y] ∧ partB k y = true) ∧ massL ys + C * b ≤ C * j) (optPart reservedB T f w k xs lv i) := by
  unfold optPart
  split
  · rename_i hw
    exact (part_w hA (isW_w hw).1).bind fun y j hy => ⟨Or.inr ⟨y, rfl, hy.1⟩, by rw [massL_app, massL_cons, massL_nil]; have := hy.2; omega⟩
  · exact ⟨Or.inl rfl, hx⟩
theorem part_kind {k : Int} {x : Syn} (h : partB k x = true) : x.kind = k := by unfold partB at h; simp only [Bool.and_eq_true, decide_eq_true_eq] at h; exact h.1.1.1
theorem task_w {b y : Syn} {xs ys : List Syn} (hb : isNum b = true) (hxs : xs = [b] ∨ ∃ z, xs = [b] ++ [z] ∧ partB 2 z = true) (hy : partB 3 y = true) (hys : ys = xs ++ [y] ∨ ∃ z, ys = (xs ++ [y]) ++ [z] ∧ partB 4 z = true) : taskB ys = true := by
  have hk : y.kind ≠ 2 := by rw [part_kind hy]; decide
  rcases hxs with rfl | ⟨z, rfl, hz⟩ <;> rcases hys with rfl | ⟨u, rfl, hu⟩
  · simp [taskB, hb, hk, hy]
  · simp [taskB, hb, hk, hy, hu]
  · simp [taskB, hb, part_kind hz, hz, hy]
  · simp [taskB, hb, part_kind hz, hz, hy, hu]
theorem num_nat {x : Syn} (h : isNum x = true) : natB x.num = true := by unfold isNum at h; simp only [Bool.and_eq_true] at h; exact h.1.2
theorem nm_name {x : Syn} (h : isNm x = true) : nameB x.text = true := by unfold isNm at h; simp only [Bool.and_eq_true] at h; exact h.2
theorem mass_pos (x : Syn) : 70 + 2 * x.text.length ≤ mass x := by rcases x with ⟨a, b, c, d, e⟩; rw [mass_mk]; simp only [Syn.text]; omega
theorem declB_mk {k : Int} {t : List UInt8} {n p : Int} {l : List Syn} : declB (.mk k t n p l) = (nameB t && natB n && (if k = 1 then taskB l else if k = 5 then decide (n = 0) && (match l with | [a] => oks a | _ => false)
    else if k = 6 then decide (n = 0) && (match l with | [a] => okf a | _ => false) else if k = 7 then (match l with | [a, b] => isNm a && isNm b | _ => false) else false)) := rfl
theorem progB_mk {k : Int} {t : List UInt8} {n p : Int} {l : List Syn} : progB (.mk k t n p l) = (decide (k = 0) && (t == []) && natB n && l.all declB) := rfl
theorem nat0 : natB 0 = true := by decide
theorem decl_w {f : Nat} (hA : TT C T) : WO (QW C declB i) (declaration reservedB T f lv i) := by
  unfold declaration
  have hc := hA.len i
  refine WO.bind (P := QW C declB i) ?_ fun x j hx => (need_w hA).bind fun _ k hk => ⟨hx.1, by subst hk; rw [mulS]; have := hx.2; omega⟩
  split
  · rename_i hw
    rw [hA.nxt i (isW_w hw).1]
    refine (name_w hA).bind fun nm j hnm => (need_w hA).bind fun _ j1 h1 => (number_w hA).bind fun a j2 ha => (need_w hA).bind fun _ j3 h3 => (number_w hA).bind fun b j4 hb => (opt_w (b := j3) hA (xs := [b]) (by rw [massL_cons, massL_nil]; have := hb.2; omega)).bind fun xs j5 hxs => ?_
    split
    · rename_i hw2
      refine (part_w hA (isW_w hw2).1).bind fun y j6 hy => (opt_w (b := j3) hA (xs := xs ++ [y]) (by rw [massL_app, massL_cons, massL_nil]; have := hxs.2; have := hy.2; omega)).bind fun ys j7 hys => ⟨?_, ?_⟩
      · simp [declB_mk, nm_name hnm.1, num_nat ha.1, task_w hb.1 hxs.1 hy.1 hys.1]
      · have e1 := hnm.2; have e2 := ha.2; have e3 := hys.2
        subst h1; subst h3
        rw [mulS] at e1 e2 e3
        have := mass_pos nm
        rw [mass_mk]; omega
    · trivial
  split
  · rename_i hw
    rw [hA.nxt i (isW_w hw).1]
    refine (name_w hA).bind fun nm j hnm => (need_w hA).bind fun _ j1 h1 => (rd_w hA f .scheme _ _).bind fun x j2 hx => ⟨?_, ?_⟩
    · have hx := hx.1
      dsimp only [okN] at hx
      simp [declB_mk, nm_name hnm.1, hx, nat0]
    · have e1 := hnm.2; have e2 := hx.2
      subst h1
      rw [mulS] at e1 e2
      have := mass_pos nm
      rw [mass_mk, massL_cons, massL_nil]; omega
  split
  · rename_i hw
    rw [hA.nxt i (isW_w hw).1]
    refine (name_w hA).bind fun nm j hnm => (need_w hA).bind fun _ j1 h1 => (rd_w hA f .formula _ _).bind fun x j2 hx => ⟨?_, ?_⟩
    · have hx := hx.1
      dsimp only [okN] at hx
      simp [declB_mk, nm_name hnm.1, hx, nat0]
    · have e1 := hnm.2; have e2 := hx.2
      subst h1
      rw [mulS] at e1 e2
      have := mass_pos nm
      rw [mass_mk, massL_cons, massL_nil]; omega
  split
  · rename_i hw
    rw [hA.nxt i (isW_w hw).1]
    refine (name_w hA).bind fun nm j hnm => (need_w hA).bind fun _ j1 h1 => (name_w hA).bind fun a j2 ha => (need_w hA).bind fun _ j3 h3 => (name_w hA).bind fun b j4 hb => (need_w hA).bind fun _ j5 h5 => (number_w hA).bind fun n j6 hn => ⟨?_, ?_⟩
    · simp [declB_mk, nm_name hnm.1, num_nat hn.1, ha.1, hb.1]
    · have e1 := hnm.2; have e2 := ha.2; have e3 := hb.2; have e4 := hn.2
      subst h1; subst h3; subst h5
      rw [mulS] at e1 e2 e3 e4
      have := mass_pos nm
      rw [mass_mk, massL_cons, massL_cons, massL_nil]; omega
  · trivial
theorem declLoop_w {f : Nat} (hA : TT C T) (g : Nat) : ∀ xs k, (xs.all declB = true ∧ massL xs + C * i ≤ C * k) → WO (fun xs j => xs.all declB = true ∧ massL xs + C * i ≤ C * j) (declLoop reservedB T f lv g xs k) := by
  induction g with
  | zero => intro x k _; trivial
  | succ g ih =>
    intro xs k hx
    unfold declLoop
    split
    · exact hx
    · exact (decl_w hA).bind fun y l hy => ih _ _ ⟨by rw [List.all_append, hx.1]; simp [hy.1], by
        have h1 := hx.2; have h2 := hy.2; rw [massL_app, massL_cons, massL_nil]; omega⟩
theorem program_w {f : Nat} (hA : TT C T) : WR C progB (program reservedB T f) := fun lv i => by
  unfold program
  have hc := hA.len i
  refine (need_w hA).bind fun t j hj => (number_w hA).bind fun n j1 hn => (need_w hA).bind fun _ j2 h2 => (declLoop_w (i := j2) hA _ [] _ ⟨rfl, by rw [massL_nil]; omega⟩).bind fun xs j3 hxs => ⟨?_, ?_⟩
  · simp [progB_mk, num_nat hn.1]
    simpa using hxs.1
  · have e1 := hn.2; have e2 := hxs.2
    subst hj; subst h2
    rw [mulS] at e1 e2
    rw [mass_mk]; simp only [List.length_nil]; omega
theorem whole_w {r : Rd} {ok : Syn → Bool} (h : WR C ok r) : WO (QW C ok 0) (whole T r) := (h _ _).bind fun x i hx => by
  split
  · exact hx
  · trivial
end
theorem scan_TT {s : List UInt8} {T : List Tok} (h : scan s = .ok T) : TT (100 + 2 * s.length) T ∧ T.length ≤ s.length + 1 := by
  have hs : s.length ≤ 65536 := by
    rcases Nat.lt_or_ge 65536 s.length with h' | h'
    · rw [scan, if_pos h'] at h; cases h
    · exact h'
  have hg := scan_good h
  have h1 : ∀ t ∈ T, NumTok t ∧ t.text.length ≤ s.length := fun t ht => ⟨(scanned h).num t ht, (scanned h).txt t ht⟩
  have h2 := joinErrs_zero (good_errs T hg)
  obtain ⟨C, hC, hT⟩ := scan_toks h
  have hlen : T.length = C.length + 1 := by rw [← kts_len, hC]; simp
  have hin : ∀ i, (tk T i).kind ≠ 3 → tk T i ∈ T ∧ i < C.length := by
    intro i hi
    rcases Nat.lt_or_ge i T.length with h' | h'
    · refine ⟨by unfold tk; rw [List.getD_eq_getElem?_getD, List.getElem?_eq_getElem h']; exact List.getElem_mem h', ?_⟩
      rcases Nat.lt_or_ge i C.length with h'' | h''
      · exact h''
      · exfalso
        have : i = C.length := by omega
        subst this
        apply hi
        rw [tk_kind, hC, List.getD_eq_getElem?_getD, List.getElem?_append_right (Nat.le_refl _)]; simp
    · exfalso; apply hi; unfold tk; rw [List.getD_eq_getElem?_getD, List.getElem?_eq_none h']; rfl
  refine ⟨⟨fun i hi => by unfold nx; rw [if_pos (by have := (hin i hi).2; omega)], fun i => ?_, fun i hi => ?_, fun i hi => ?_⟩, ?_⟩
  · by_cases hk : (tk T i).kind = 3
    · have : (tk T i).text.length ≤ s.length := by
        rcases Nat.lt_or_ge i T.length with h' | h'
        · exact (h1 _ (by unfold tk; rw [List.getD_eq_getElem?_getD, List.getElem?_eq_getElem h']; exact List.getElem_mem h')).2
        · unfold tk; rw [List.getD_eq_getElem?_getD, List.getElem?_eq_none h']; simp [tkEnd]
      omega
    · have := (h1 _ (hin i hk).1).2; omega
  · have := (h2 _ (hin i (by rw [hi]; decide)).1).2.2
    rw [hi] at this; exact this
  · exact ((h1 _ (hin i (by rw [hi]; decide)).1).1 hi).2.2
  · exact (scanned h).len
end Go.Proofs.YtplbfmcgddnkeaaGreatDoor
end
section
set_option maxHeartbeats 1000000
namespace Go.Proofs.YtplbfmcgddnkeaaGreatDoor
theorem tsk_rest {l : List Syn} (h : (match l with | [] => false | [b] => partB 3 b | [b, c] => partB 3 b && partB 4 c | (_ :: _ :: _ :: _) => false) = true) :
    ∃ b c, l = b :: c ∧ partB 3 b = true ∧ (c = [] ∨ ∃ x, c = [x] ∧ partB 4 x = true) := by
  match l, h with
  | [b], h => exact ⟨b, [], rfl, h, .inl rfl⟩
  | [b, c], h =>
    simp only [Bool.and_eq_true] at h
    exact ⟨b, [c], rfl, h.1, .inr ⟨c, rfl, h.2⟩⟩
def Tsk (l : List Syn) : Prop := ∃ a w b c, l = a :: (w ++ b :: c) ∧ isNum a = true ∧ (w = [] ∨ ∃ x, w = [x] ∧ partB 2 x = true) ∧ partB 3 b = true ∧ (c = [] ∨ ∃ x, c = [x] ∧ partB 4 x = true)
theorem task_tsk {l : List Syn} (h : taskB l = true) : Tsk l := by
  unfold taskB at h
  match l, h with
  | [], h => cases h
  | [a], h => simp at h
  | a :: b :: r, h =>
    simp only [Bool.and_eq_true] at h
    obtain ⟨ha, h⟩ := h
    by_cases hb : b.kind = 2
    · rw [if_pos hb] at h
      by_cases hp : partB 2 b = true
      · rw [if_pos hp] at h
        obtain ⟨x, c, rfl, h1, h2⟩ := tsk_rest (l := r) (by cases r with | nil => exact h | cons _ r => cases r with | nil => exact h | cons _ r => cases r <;> exact h)
        exact ⟨a, [b], x, c, rfl, ha, .inr ⟨b, rfl, hp⟩, h1, h2⟩
      · rw [if_neg hp] at h; cases h
    · rw [if_neg hb] at h
      obtain ⟨x, c, e, h1, h2⟩ := tsk_rest (l := b :: r) (by cases r with | nil => exact h | cons _ r => cases r <;> exact h)
      exact ⟨a, [], x, c, by rw [e]; rfl, ha, .inl rfl, h1, h2⟩
theorem part_shape {k : Int} {x : Syn} (h : partB k x = true) : ∃ q a, x = .mk k [] 0 q [a] ∧ okc a = true := by
  obtain ⟨k', t, n, q, ks⟩ := x
  unfold partB at h
  simp only [Syn.kind, Syn.text, Syn.num, Syn.kids, Bool.and_eq_true, decide_eq_true_eq, beq_iff_eq] at h
  obtain ⟨⟨⟨h1, h2⟩, h3⟩, h4⟩ := h
  match ks, h4 with
  | [a], h4 =>
    obtain rfl : k' = k := of_decide_eq_true h1
    obtain rfl : n = 0 := of_decide_eq_true h3
    subst h2
    exact ⟨q, a, rfl, h4⟩
theorem decl_parts {t : Syn} (h : declB t = true) : nameB t.text = true ∧ (0 ≤ t.num ∧ t.num ≤ 1048576) ∧
    ((t.kind = 1 ∧ Tsk t.kids) ∨ (t.kind = 5 ∧ t.num = 0 ∧ ∃ a, t.kids = [a] ∧ oks a = true) ∨ (t.kind = 6 ∧ t.num = 0 ∧ ∃ a, t.kids = [a] ∧ okf a = true) ∨ (t.kind = 7 ∧ ∃ a b, t.kids = [a, b] ∧ isNm a = true ∧ isNm b = true)) := by
  unfold declB natB at h
  simp only [Bool.and_eq_true, decide_eq_true_eq] at h
  obtain ⟨⟨h1, h2⟩, h3⟩ := h
  refine ⟨h1, h2, ?_⟩
  by_cases k1 : t.kind = 1
  · rw [if_pos k1] at h3; exact .inl ⟨k1, task_tsk h3⟩
  rw [if_neg k1] at h3
  by_cases k5 : t.kind = 5
  · rw [if_pos k5] at h3
    simp only [Bool.and_eq_true, decide_eq_true_eq] at h3
    refine .inr (.inl ⟨k5, h3.1, ?_⟩)
    obtain ⟨-, h3⟩ := h3
    split at h3
    · rename_i a e; exact ⟨a, e, h3⟩
    · cases h3
  rw [if_neg k5] at h3
  by_cases k6 : t.kind = 6
  · rw [if_pos k6] at h3
    simp only [Bool.and_eq_true, decide_eq_true_eq] at h3
    refine .inr (.inr (.inl ⟨k6, h3.1, ?_⟩))
    obtain ⟨-, h3⟩ := h3
    split at h3
    · rename_i a e; exact ⟨a, e, h3⟩
    · cases h3
  rw [if_neg k6] at h3
  by_cases k7 : t.kind = 7
  · rw [if_pos k7] at h3
    refine .inr (.inr (.inr ⟨k7, ?_⟩))
    split at h3
    · rename_i a b e
      simp only [Bool.and_eq_true] at h3
      exact ⟨a, b, e, h3⟩
    · cases h3
  · rw [if_neg k7] at h3; cases h3
theorem prog_parts {t : Syn} (h : progB t = true) : t.kind = 0 ∧ t.text = [] ∧ (0 ≤ t.num ∧ t.num ≤ 1048576) ∧ ∀ x ∈ t.kids, declB x = true := by
  unfold progB natB at h
  simp only [Bool.and_eq_true, decide_eq_true_eq, beq_iff_eq, List.all_eq_true] at h
  exact ⟨h.1.1.1, h.1.1.2, h.1.2, h.2⟩
theorem tsk_parts {a b : Syn} {w c : List Syn} (hw : w = [] ∨ ∃ x, w = [x] ∧ partB 2 x = true) (hb : partB 3 b = true) (hc : c = [] ∨ ∃ x, c = [x] ∧ partB 4 x = true) :
    ∀ x ∈ w ++ b :: c, ∃ k : Int, (k = 2 ∨ k = 3 ∨ k = 4) ∧ partB k x = true := by
  intro x hx
  rcases List.mem_append.1 hx with hx | hx
  · rcases hw with rfl | ⟨y, rfl, hy⟩
    · cases hx
    · rw [List.mem_singleton.1 hx]; exact ⟨2, .inl rfl, hy⟩
  · rcases List.mem_cons.1 hx with rfl | hx
    · exact ⟨3, .inr (.inl rfl), hb⟩
    · rcases hc with rfl | ⟨y, rfl, hy⟩
      · cases hx
      · rw [List.mem_singleton.1 hx]; exact ⟨4, .inr (.inr rfl), hy⟩
end Go.Proofs.YtplbfmcgddnkeaaGreatDoor
end
