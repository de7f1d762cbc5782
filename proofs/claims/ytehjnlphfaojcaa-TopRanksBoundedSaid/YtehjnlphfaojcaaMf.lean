/- The map of leading lines in memory: look-up, store, next. -/
import Derived.Test.YtehjnlphfaojcaaMe
import Derived.Maps.RangeRun
set_option maxHeartbeats 2000000
namespace Go.Proofs.Ytehjnlphfaojcaa
open Go.RowKit
/-- Blocks of integers lie as they lay. -/
def IntKept (w w' : World) : Prop := ∀ (k : Nat) (cur : Array Value) (fr : Nat × Nat), w.heap[k]? = some (.cells cur 3 fr) → w'.heap[k]? = some (.cells cur 3 fr)
/-- Below base all lies as it lay, and so do all blocks of integers. -/
structure Mv (base : Nat) (w w' : World) : Prop where
  below : Below base w w'
  kept : IntKept w w'
theorem Mv.refl (base : Nat) (w : World) : Mv base w w := ⟨Below.refl _ _, fun _ _ _ h => h⟩
theorem Mv.trans {base : Nat} {a b c : World} (h : Mv base a b) (k : Mv base b c) : Mv base a c := ⟨h.below.trans k.below, fun n cur fr e => k.kept n cur fr (h.kept n cur fr e)⟩
theorem IntKept.of_below {w w' : World} (h : Below w.heap.size w w') : IntKept w w' := fun k cur fr e => (h.block k (Array.getElem?_eq_some_iff.1 e).1).trans e
theorem Mv.of_below {base : Nat} {w w' : World} (h : Below w.heap.size w w') (hb : base ≤ w.heap.size) : Mv base w w' := ⟨h.mono hb, .of_below h⟩
theorem Mv.size {base : Nat} {w w' : World} (h : Mv base w w') : w.heap.size ≤ w'.heap.size := h.below.size
/-- A store into a block that is no block of integers, at or above base. -/
theorem Mv.set {base : Nat} {w : World} {k o : Nat} {v : Value} {cur : Array Value} {T : TypeId} {fr : Nat × Nat} (hk : w.heap[k]? = some (.cells cur T fr)) (hT : T ≠ 3) (hb : base ≤ k) : Mv base w (w.setCell ⟨k, o, none⟩ v) := by
  refine ⟨(Below.refl base w).setCell (p := ⟨k, o, none⟩) hb v, fun n c f e => ?_⟩
  have hne : n ≠ k := fun h => by subst h; rw [hk] at e; injection e with e; injection e with _ e2; exact hT e2
  rw [Below.heap_setCell _ _ _ _ hne]; exact e
theorem Mv.obj {base : Nat} {w w' : World} {k : Nat} {o o' : Obj} (hk : w.heap[k]? = some o) (ho : ∀ cur fr, o ≠ .cells cur 3 fr) (hb : base ≤ k) (h1 : w'.os = w.os) (h2 : w'.tape = w.tape) (h3 : w'.output = w.output)
    (hs : w.heap.size ≤ w'.heap.size) (h : ∀ n, n ≠ k → n < w.heap.size → w'.heap[n]? = w.heap[n]?) : Mv base w w' := by
  have hlt := (Array.getElem?_eq_some_iff.1 hk).1
  refine ⟨⟨h1, h2, h3, hs, fun n hn => h n (by omega) (by omega)⟩, fun n c f e => ?_⟩
  have hne : n ≠ k := fun h => by subst h; rw [hk] at e; injection e with e; exact ho _ _ e
  rw [h n hne (Array.getElem?_eq_some_iff.1 e).1]; exact e
/-- The slice v reads as xs, and will read so as long as blocks of integers are kept. -/
def Vc (base : Nat) (w : World) (v : Value) (xs : List Int) : Prop :=
  IntsAt w v xs ∧ ∀ b o n c, v = .slice (some ⟨b, o, none⟩) n c → 0 < c → b < base ∨ ∃ cur fr, w.heap[b]? = some (.cells cur 3 fr)
theorem Vc.mv {base : Nat} {w w' : World} {v : Value} {xs : List Int} (h : Vc base w v xs) (k : Mv base w w') : Vc base w' v xs := by
  obtain ⟨⟨ao, c, rfl, h1, h2, h3⟩, h4⟩ := h
  have hblk : ∀ b o, ao = some ⟨b, o, none⟩ → 0 < c → w'.heap[b]? = w.heap[b]? := fun b o e hc0 => by
    rcases h4 b o _ _ (by rw [e]) hc0 with h | ⟨cur, fr, h⟩
    · exact k.below.block b h
    · rw [h]; exact k.kept _ _ _ h
  refine ⟨⟨ao, c, rfl, h1, h2, fun ad had hc0 => ?_⟩, fun b o n c' e hc0 => ?_⟩
  · obtain ⟨b, o, rfl, hlt, hc⟩ := h3 ad had hc0
    refine ⟨b, o, rfl, Nat.lt_of_lt_of_le hlt k.size, fun t ht => ?_⟩
    rw [← hc t ht]
    simp only [World.cell?, hblk b o had hc0]
  · rcases h4 b o n c' e hc0 with h | ⟨cur, fr, h⟩
    · exact .inl h
    · exact .inr ⟨cur, fr, k.kept _ _ _ h⟩
theorem Vc.of_lt {base : Nat} {w : World} {v : Value} {xs : List Int} (h : IntsAt w v xs) (hb : w.heap.size ≤ base) : Vc base w v xs := by
  refine ⟨h, fun b o n c e hc0 => .inl ?_⟩
  obtain ⟨ao, c', e', -, -, h3⟩ := h
  rw [e'] at e
  injection e with e1 _ e3
  obtain ⟨b', o', e2, hlt, -⟩ := h3 _ e1 (by omega)
  injection e2 with e2
  omega
theorem vc_of_owns {base B : Nat} {w : World} {v : Value} {n : Nat} {xs : List Int} (h : w.ownsRow B 3 1 v n (xs.map (Value.int .i64))) : Vc base w v xs := by
  refine ⟨(ints_of_owns h).1, fun b o m c e _ => ?_⟩
  rcases h.2 with ⟨rfl, -⟩ | ⟨g, cap, cur, rfl, -, hg, -⟩
  · cases e
  · injection e with e1 _ _; injection e1 with e1; injection e1 with e1 _
    subst e1
    exact .inr ⟨cur, _, hg⟩
def LineAt (base : Nat) (w : World) (v : Value) (x : Line) : Prop := ∃ a b, v = .agg #[a, b] ∧ Vc base w a x.1 ∧ Vc base w b x.2
theorem LineAt.mv {base : Nat} {w w' : World} {v : Value} {x : Line} (h : LineAt base w v x) (k : Mv base w w') : LineAt base w' v x := by
  obtain ⟨a, b, e, h1, h2⟩ := h
  exact ⟨a, b, e, h1.mv k, h2.mv k⟩
/-- An entry of the map: key, value, stamp. -/
abbrev Ent := Int × Value × Nat
def Ent.put (e : Ent) : MapEntry := { key := .int .i64 e.1, val := e.2.1, born := e.2.2 }
def MapAt (w : World) (M : Nat) (L : List Ent) (clock : Nat) : Prop := w.heap[M]? = some (.map (L.map Ent.put).toArray clock) ∧ (∀ e ∈ L, e.2.2 < clock) ∧ (L.map (·.2.2)).Nodup
/-- The map M holds the lines. -/
inductive LinesAt (base : Nat) (w : World) : List Ent → List (Int × Line) → Prop
  | nil : LinesAt base w [] []
  | cons {k : Int} {v : Value} {b : Nat} {l : Line} {L : List Ent} {lead : List (Int × Line)} : LineAt base w v l → LinesAt base w L lead → LinesAt base w ((k, v, b) :: L) ((k, l) :: lead)
theorem LinesAt.mv {base : Nat} {w w' : World} (k : Mv base w w') : ∀ {L : List Ent} {lead : List (Int × Line)}, LinesAt base w L lead → LinesAt base w' L lead
  | _, _, .nil => .nil
  | _, _, .cons h hs => .cons (h.mv k) (LinesAt.mv k hs)
def findE (c : Int) (L : List Ent) : Option Value := (L.find? (fun e => e.1 == c)).map (·.2.1)
theorem LinesAt.find {base : Nat} {w : World} {c : Int} : ∀ {L : List Ent} {lead : List (Int × Line)}, LinesAt base w L lead →
    match look lead c with | some l => ∃ v, findE c L = some v ∧ LineAt base w v l | none => findE c L = none
  | _, _, .nil => by simp [look, findE]
  | _, _, .cons (k := k) h hs => by
    have ih := LinesAt.find (c := c) hs
    unfold look findE at *
    rw [List.find?_cons, List.find?_cons]
    by_cases e : (k == c) = true
    · simp only [e]
      exact ⟨_, rfl, h⟩
    · simp only [Bool.not_eq_true] at e
      simp only [e]
      exact ih
theorem findNow_ent (c : Int) : ∀ (L : List Ent) (i : Nat), ∃ r, Instr.findNow (.int .i64) (.int .i64 c) (L.map Ent.put) i = some r ∧ r.map (·.2) = findE c L ∧
      ∀ j v, r = some (j, v) → ∃ d, j = i + d ∧ d < L.length ∧ (∃ e, L[d]? = some e ∧ e.1 = c)
  | [], i => ⟨none, rfl, rfl, fun _ _ h => by cases h⟩
  | e :: L, i => by
    obtain ⟨r, h1, h2, h3⟩ := findNow_ent c L (i + 1)
    by_cases he : c = e.1
    · refine ⟨some (i, e.2.1), ?_, ?_, ?_⟩
      · simp [Instr.findNow, Ent.put, Instr.sameNow, he]
      · simp [findE, he]
      · intro j v h
        injection h with h; injection h with h4 h5
        exact ⟨0, by omega, by simp, e, rfl, he.symm⟩
    · refine ⟨r, ?_, ?_, ?_⟩
      · have hc : (c == e.1) = false := by rw [beq_eq_false_iff_ne]; exact he
        simp only [List.map_cons, Instr.findNow, Ent.put, Instr.sameNow, if_true, hc]
        exact h1
      · rw [h2]
        have : (e.1 == c) = false := by rw [beq_eq_false_iff_ne]; exact fun h => he h.symm
        simp [findE, List.find?_cons, this]
      · intro j v h
        obtain ⟨d, h4, h5, x, h6, h7⟩ := h3 j v h
        exact ⟨d + 1, by omega, by simpa using h5, x, by simpa using h6, h7⟩
theorem zero_line (w : World) : (zeroValue 51).run Try.prog w = .ok (.agg #[.slice none 0 0, .slice none 0 0]) w := by
  obtain ⟨i0, hi, hz0, -, -⟩ := info_parts (show (Try.prog.info? 51).map (fun i => (i.zero, i.size, i.bytes)) = some (some (.agg #[.slice none 0 0, .slice none 0 0]), 2, 48) by kernel_rfl)
  simp [zeroValue, typeInfo, hi, hz0]
theorem check_int (b : Bool) (c : Int) (w : World) : (Instr.checkKey b 10000 3 (.int .i64 c)).run Try.prog w = .ok () w := by
  show (Instr.checkKey b (9999 + 1) 3 (.int .i64 c)).run Try.prog w = _
  unfold Instr.checkKey
  rw [Sem.run_bind, run_underlying Try.underlying3]
  rfl
theorem find_int (c : Int) (L : List Ent) (w : World) {r : Option (Nat × Value)} (h : Instr.findNow (.int .i64) (.int .i64 c) (L.map Ent.put) 0 = some r) : (Instr.findKey 3 (.int .i64 c) (L.map Ent.put)).run Try.prog w = .ok r w := by
  simp [Instr.findKey, run_underlying Try.underlying3, h]
theorem run_look {w : World} {M : Nat} {L : List Ent} {clock : Nat} (h : MapAt w M L clock) (c : Int) :
    (Instr.lookup 55 (.map (some M)) (.int .i64 c) true).run Try.prog w = .ok (.tuple #[(findE c L).getD (.agg #[.slice none 0 0, .slice none 0 0]), .bool (findE c L).isSome]) w := by
  obtain ⟨r, h1, h2, -⟩ := findNow_ent c L 0
  have h3 := find_int c L w h1
  rw [← h2]
  cases r with
  | none => simp [Instr.lookup, run_underlying Try.underlying55, MapKept.run_getObj_map h.1, check_int, h3, zero_line, Result.andThen]
  | some r => simp [Instr.lookup, run_underlying Try.underlying55, MapKept.run_getObj_map h.1, check_int, h3, zero_line, Result.andThen]
/-- The map with a value at a key. -/
def putE (c : Int) (v : Value) : List Ent → List Ent
  | [] => []
  | e :: L => if c = e.1 then (e.1, v, e.2.2) :: L else e :: putE c v L
theorem putE_stamps (c : Int) (v : Value) : ∀ L : List Ent, (putE c v L).map (·.2.2) = L.map (·.2.2) ∧ (putE c v L).map (·.1) = L.map (·.1)
  | [] => ⟨rfl, rfl⟩
  | e :: L => by
    unfold putE
    split
    · simp
    · simp [putE_stamps c v L]
theorem modify_put (c : Int) (v : Value) : ∀ (L : List Ent) (i d : Nat) (u : Value), Instr.findNow (.int .i64) (.int .i64 c) (L.map Ent.put) i = some (some (i + d, u)) →
    ((L.map Ent.put)[d]?.map (·.key) = some (.int .i64 c)) ∧ (L.map Ent.put).modify d (fun e => { e with key := .int .i64 c, val := v }) = (putE c v L).map Ent.put
  | [], _, _, _, h => by simp [Instr.findNow] at h
  | e :: L, i, d, u, h => by
    by_cases he : c = e.1
    · have hc : (c == e.1) = true := by rw [beq_iff_eq]; exact he
      simp only [List.map_cons, Instr.findNow, Ent.put, Instr.sameNow, if_true, hc, Option.some.injEq, Prod.mk.injEq] at h
      have : d = 0 := by omega
      subst this
      unfold putE
      rw [if_pos he]
      refine ⟨by simp [Ent.put, he], by simp [Ent.put, he]⟩
    · have hc : (c == e.1) = false := by rw [beq_eq_false_iff_ne]; exact he
      simp only [List.map_cons, Instr.findNow, Ent.put, Instr.sameNow, if_true, hc] at h
      have hd : ∃ d', d = d' + 1 := by
        obtain ⟨r, h1, -, h3⟩ := findNow_ent c L (i + 1)
        change Instr.findNow (.int .i64) (.int .i64 c) (L.map Ent.put) (i + 1) = _ at h
        rw [h1] at h
        injection h with h
        obtain ⟨d', h4, -⟩ := h3 _ _ h
        exact ⟨d', by omega⟩
      obtain ⟨d, rfl⟩ := hd
      have := modify_put c v L (i + 1) d u (by rw [show i + 1 + d = i + (d + 1) by omega]; exact h)
      unfold putE
      rw [if_neg he]
      exact ⟨by simpa using this.1, by simp [this.2]⟩
theorem same_int (n : Nat) (c : Int) : Instr.sameBits n (.int .i64 c) (.int .i64 c) = true := by cases n <;> simp [Instr.sameBits]
theorem set_at {w : World} {M : Nat} {o : Obj} (h : w.heap[M]? = some o) (o' : Obj) : (ChangeMaps.setBlock w M o').heap[M]? = some o' := by
  have hlt := (Array.getElem?_eq_some_iff.1 h).1
  simp [ChangeMaps.setBlock, Array.getElem?_setIfInBounds, hlt]
theorem set_ne {w : World} {M n : Nat} (o' : Obj) (h : n ≠ M) : (ChangeMaps.setBlock w M o').heap[n]? = w.heap[n]? := by
  simp [ChangeMaps.setBlock, Array.getElem?_setIfInBounds, Ne.symm h]
theorem set_size (w : World) (M : Nat) (o' : Obj) : (ChangeMaps.setBlock w M o').heap.size = w.heap.size := by simp [ChangeMaps.setBlock]
theorem run_put {w : World} {M : Nat} {L : List Ent} {clock : Nat} (h : MapAt w M L clock) (c : Int) (v : Value) (hc : (findE c L).isSome = true) :
    ∃ w', (Instr.mapUpdate 55 (.map (some M)) (.int .i64 c) v).run Try.prog w = .ok () w' ∧ MapAt w' M (putE c v L) clock ∧ w'.os = w.os ∧ w'.tape = w.tape ∧ w'.output = w.output ∧ w'.heap.size = w.heap.size ∧ ∀ n, n ≠ M → w'.heap[n]? = w.heap[n]? := by
  obtain ⟨r, h1, h2, h4⟩ := findNow_ent c L 0
  have h3 := find_int c L w h1
  cases r with
  | none => rw [← h2] at hc; cases hc
  | some r =>
    obtain ⟨j, u⟩ := r
    obtain ⟨h5, h6⟩ := modify_put c v L 0 j u (by rw [Nat.zero_add]; exact h1)
    have hk : (Option.map ((fun x => x.key) ∘ Ent.put) L[j]?).getD (Value.int .i64 c) = .int .i64 c := by
      rw [List.getElem?_map, Option.map_map] at h5
      rw [h5]; rfl
    refine ⟨ChangeMaps.setBlock w M (.map ((putE c v L).map Ent.put).toArray clock), ?_, ⟨set_at h.1 _, fun e he => ?_, ?_⟩, rfl, rfl, rfl, set_size _ _ _, fun n hn => set_ne _ hn⟩
    · simp [Instr.mapUpdate, run_underlying Try.underlying55, MapKept.run_getObj_map h.1, check_int, h3, Instr.keyThatStays, hk, same_int, MapKept.run_setObj_map _ h.1, Result.andThen, h6, h5, ChangeMaps.setBlock]
    · have : e.2.2 ∈ (putE c v L).map (·.2.2) := List.mem_map_of_mem he
      rw [(putE_stamps c v L).1] at this
      obtain ⟨e', he', e2⟩ := List.mem_map.1 this
      rw [← e2]; exact h.2.1 e' he'
    · rw [(putE_stamps c v L).1]; exact h.2.2
theorem run_new {w : World} {M : Nat} {L : List Ent} {clock : Nat} (h : MapAt w M L clock) (c : Int) (v : Value) (hc : findE c L = none) :
    ∃ w', (Instr.mapUpdate 55 (.map (some M)) (.int .i64 c) v).run Try.prog w = .ok () w' ∧ MapAt w' M (L ++ [(c, v, clock)]) (clock + 1) ∧ w'.os = w.os ∧ w'.tape = w.tape ∧ w'.output = w.output ∧ w'.heap.size = w.heap.size ∧ ∀ n, n ≠ M → w'.heap[n]? = w.heap[n]? := by
  obtain ⟨r, h1, h2, h4⟩ := findNow_ent c L 0
  have h3 := find_int c L w h1
  cases r with
  | some r => rw [hc] at h2; cases h2
  | none =>
    refine ⟨ChangeMaps.setBlock w M (.map ((L ++ [(c, v, clock)]).map Ent.put).toArray (clock + 1)), ?_, ⟨set_at h.1 _, fun e he => ?_, ?_⟩, rfl, rfl, rfl, set_size _ _ _, fun n hn => set_ne _ hn⟩
    · simp [Instr.mapUpdate, run_underlying Try.underlying55, MapKept.run_getObj_map h.1, check_int, h3, MapKept.run_setObj_map _ h.1, Result.andThen, Ent.put, ChangeMaps.setBlock]
    · rcases List.mem_append.1 he with he | he
      · have := h.2.1 e he; omega
      · rw [List.mem_singleton] at he; subst he; exact Nat.lt_succ_self _
    · rw [List.map_append, List.nodup_append]
      refine ⟨h.2.2, by simp, fun a ha b hb => ?_⟩
      obtain ⟨e, he, rfl⟩ := List.mem_map.1 ha
      simp at hb
      have := h.2.1 e he
      omega
end Go.Proofs.Ytehjnlphfaojcaa
