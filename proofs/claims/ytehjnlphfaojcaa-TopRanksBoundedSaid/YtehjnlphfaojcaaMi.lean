/- The state of echelon in memory: rows and lines that are owned, the map while it is ranged over. -/
import Derived.Test.YtehjnlphfaojcaaMg
set_option maxHeartbeats 2000000
namespace Go.Proofs.Ytehjnlphfaojcaa
open Go.RowKit
inductive VcL (base : Nat) (w : World) : List Value → List (List Int) → Prop
  | nil : VcL base w [] []
  | cons {u : Value} {r : List Int} {us : List Value} {rows : List (List Int)} : Vc base w u r → VcL base w us rows → VcL base w (u :: us) (r :: rows)
theorem VcL.mv {base : Nat} {w w' : World} (k : Mv base w w') : ∀ {us : List Value} {rows : List (List Int)}, VcL base w us rows → VcL base w' us rows
  | _, _, .nil => .nil
  | _, _, .cons h hs => .cons (h.mv k) (VcL.mv k hs)
theorem VcL.snoc {base : Nat} {w : World} {u : Value} {r : List Int} (h : Vc base w u r) : ∀ {us : List Value} {rows : List (List Int)}, VcL base w us rows → VcL base w (us ++ [u]) (rows ++ [r])
  | _, _, .nil => .cons h .nil
  | _, _, .cons k ks => .cons k (VcL.snoc h ks)
theorem VcL.length {base : Nat} {w : World} : ∀ {us : List Value} {rows : List (List Int)}, VcL base w us rows → us.length = rows.length
  | _, _, .nil => rfl
  | _, _, .cons _ ks => by simp [ks.length]
theorem VcL.get {base : Nat} {w : World} : ∀ {us : List Value} {rows : List (List Int)}, VcL base w us rows → ∀ t (h : t < rows.length) u, us[t]? = some u → Vc base w u rows[t]
  | _, _, .nil => fun t h => absurd h (by simp)
  | _, _, .cons k ks => fun t h u e => by
    cases t with
    | zero => simp at e; subst e; exact k
    | succ t => exact ks.get t (by simpa using h) u (by simpa using e)
inductive LnL (base : Nat) (w : World) : List Value → List Line → Prop
  | nil : LnL base w [] []
  | cons {a b : Value} {x : Line} {us : List Value} {ls : List Line} : Vc base w a x.1 → Vc base w b x.2 → LnL base w us ls → LnL base w (a :: b :: us) (x :: ls)
theorem LnL.mv {base : Nat} {w w' : World} (k : Mv base w w') : ∀ {us : List Value} {ls : List Line}, LnL base w us ls → LnL base w' us ls
  | _, _, .nil => .nil
  | _, _, .cons h h' hs => .cons (h.mv k) (h'.mv k) (LnL.mv k hs)
theorem LnL.snoc {base : Nat} {w : World} {a b : Value} {x : Line} (h : Vc base w a x.1) (h' : Vc base w b x.2) : ∀ {us : List Value} {ls : List Line}, LnL base w us ls → LnL base w (us ++ [a, b]) (ls ++ [x])
  | _, _, .nil => .cons h h' .nil
  | _, _, .cons k k' ks => .cons k k' (LnL.snoc h h' ks)
theorem LnL.length {base : Nat} {w : World} : ∀ {us : List Value} {ls : List Line}, LnL base w us ls → us.length = ls.length * 2
  | _, _, .nil => rfl
  | _, _, .cons _ _ ks => by simp [ks.length]; omega
theorem LnL.get {base : Nat} {w : World} : ∀ {us : List Value} {ls : List Line}, LnL base w us ls → ∀ t (h : t < ls.length), ∃ a b, us[t * 2]? = some a ∧ us[t * 2 + 1]? = some b ∧ Vc base w a ls[t].1 ∧ Vc base w b ls[t].2
  | _, _, .nil => fun t h => absurd h (by simp)
  | _, _, .cons k k' ks => fun t h => by
    cases t with
    | zero => exact ⟨_, _, rfl, rfl, k, k'⟩
    | succ t =>
      obtain ⟨a, b, h1, h2, h3, h4⟩ := ks.get t (by simpa using h)
      exact ⟨a, b, by rw [show (t + 1) * 2 = t * 2 + 1 + 1 by omega]; simpa using h1, by rw [show (t + 1) * 2 + 1 = t * 2 + 1 + 1 + 1 by omega]; simpa using h2, h3, h4⟩
theorem OnlyX.refl (X : Nat) (w : World) : OnlyX X w w := .of_below (Below.refl _ _)
theorem OnlyX.trans {X : Nat} {a b c : World} (h : OnlyX X a b) (k : OnlyX X b c) : OnlyX X a c :=
  ⟨k.os.trans h.os, k.tape.trans h.tape, k.output.trans h.output, Nat.le_trans h.size k.size, fun n hn hne => (k.block n (Nat.lt_of_lt_of_le hn h.size) hne).trans (h.block n hn hne)⟩
theorem OnlyX.below {X : Nat} {a b c : World} (h : OnlyX X a b) (k : Below b.heap.size b c) : OnlyX X a c := h.trans (.of_below k)
theorem OnlyX.blk {X k : Nat} {w w' : World} {o : Obj} (h : OnlyX X w w') (hk : w.heap[k]? = some o) (hne : k ≠ X) : w'.heap[k]? = some o := (h.block k (Array.getElem?_eq_some_iff.1 hk).1 hne).trans hk
/-- A store into a block beyond w. -/
theorem OnlyX.far {X k o : Nat} {w w' : World} {v : Value} (h : OnlyX X w w') (hk : w.heap.size ≤ k) : OnlyX X w (w'.setCell ⟨k, o, none⟩ v) :=
  ⟨h.os, h.tape, h.output, by have := h.size; simpa [World.setCell] using this, fun n hn hne => (Below.heap_setCell _ _ _ _ (show n ≠ k by omega)).trans (h.block n hn hne)⟩
theorem OnlyX.obj {M : Nat} {w w1 w' : World} (h : OnlyX M w w1) (h1 : w'.os = w1.os) (h2 : w'.tape = w1.tape) (h3 : w'.output = w1.output) (hs : w'.heap.size = w1.heap.size) (hb : ∀ n, n ≠ M → w'.heap[n]? = w1.heap[n]?) : OnlyX M w w' :=
  ⟨h1.trans h.os, h2.trans h.tape, h3.trans h.output, by rw [hs]; exact h.size, fun n hn hne => (hb n hne).trans (h.block n hn hne)⟩
theorem OnlyX.mv {M base : Nat} {w w' : World} {es : Array MapEntry} {clock : Nat} (h : OnlyX M w w') (hM : w.heap[M]? = some (.map es clock)) (hb : base ≤ M) : Mv base w w' :=
  Mv.obj (o' := .map es clock) hM (fun _ _ e => by cases e) hb h.os h.tape h.output h.size fun n hne hn => h.block n hn hne
theorem OnlyX.owns {M base e size n : Nat} {w w' : World} {v : Value} {xs : List Value} {es : Array MapEntry} {clock : Nat} (h : OnlyX M w w') (hM : w.heap[M]? = some (.map es clock)) (ho : w.ownsRow base e size v n xs) : w'.ownsRow base e size v n xs :=
  ho.kept (row := some M) ⟨h.os, h.tape, h.output, h.size, fun k hk hne => h.block k hk (fun e => hne (by rw [e]))⟩ (by
    rcases ho.2 with ⟨rfl, -⟩ | ⟨g, cap, cur, rfl, -, hg, -⟩
    · exact .inl rfl
    · refine .inr fun e => ?_
      injection e with e
      change g = M at e
      subst e
      rw [hM] at hg
      cases hg)
/-- The map while it is ranged over: the lines whose stamps are seen are turned by f. -/
inductive Mix (base : Nat) (w : World) (seen : Array Nat) (f : Line → Line) : List Ent → List (Int × Line) → Prop
  | nil : Mix base w seen f [] []
  | cons {k : Int} {v : Value} {b : Nat} {l : Line} {L : List Ent} {lead : List (Int × Line)} : LineAt base w v (if seen.contains b then f l else l) → Mix base w seen f L lead → Mix base w seen f ((k, v, b) :: L) ((k, l) :: lead)
theorem Mix.start {base : Nat} {w : World} {f : Line → Line} : ∀ {L : List Ent} {lead : List (Int × Line)}, LinesAt base w L lead → Mix base w #[] f L lead
  | _, _, .nil => .nil
  | _, _, .cons h hs => .cons (by simpa using h) (Mix.start hs)
theorem Mix.mv {base : Nat} {w w' : World} {seen : Array Nat} {f : Line → Line} (k : Mv base w w') : ∀ {L : List Ent} {lead : List (Int × Line)}, Mix base w seen f L lead → Mix base w' seen f L lead
  | _, _, .nil => .nil
  | _, _, .cons h hs => .cons (h.mv k) (Mix.mv k hs)
theorem Mix.done {base : Nat} {w : World} {seen : Array Nat} {f : Line → Line} : ∀ {L : List Ent} {lead : List (Int × Line)}, Mix base w seen f L lead → (∀ e ∈ L, seen.contains e.2.2 = true) → LinesAt base w L (lead.map fun p => (p.1, f p.2))
  | _, _, .nil, _ => .nil
  | _, _, .cons h hs, hall => .cons (by have := hall _ (List.mem_cons_self ..); rw [if_pos this] at h; exact h) (Mix.done hs fun e he => hall e (List.mem_cons_of_mem _ he))
theorem Mix.keys {base : Nat} {w : World} {seen : Array Nat} {f : Line → Line} : ∀ {L : List Ent} {lead : List (Int × Line)}, Mix base w seen f L lead → L.map (·.1) = lead.map (·.1)
  | _, _, .nil => rfl
  | _, _, .cons _ hs => by simp [hs.keys]
theorem LinesAt.keys {base : Nat} {w : World} : ∀ {L : List Ent} {lead : List (Int × Line)}, LinesAt base w L lead → L.map (·.1) = lead.map (·.1)
  | _, _, .nil => rfl
  | _, _, .cons _ hs => by simp [hs.keys]
theorem LinesAt.snoc {base : Nat} {w : World} {k : Int} {v : Value} {b : Nat} {l : Line} (h : LineAt base w v l) : ∀ {L : List Ent} {lead : List (Int × Line)}, LinesAt base w L lead → LinesAt base w (L ++ [(k, v, b)]) (lead ++ [(k, l)])
  | _, _, .nil => .cons h .nil
  | _, _, .cons j js => .cons j (LinesAt.snoc h js)
theorem Mix.get {base : Nat} {w : World} {seen : Array Nat} {f : Line → Line} {e : Ent} (hs : seen.contains e.2.2 = false) : ∀ {L : List Ent} {lead : List (Int × Line)}, Mix base w seen f L lead → e ∈ L → ∃ l, (e.1, l) ∈ lead ∧ LineAt base w e.2.1 l
  | _, _, .nil, h => by cases h
  | _, _, .cons (k := k) (v := v) (b := b) (l := l) h hr, he => by
    rcases List.mem_cons.1 he with rfl | he
    · simp only at hs
      rw [if_neg (by rw [hs]; simp)] at h
      exact ⟨l, List.mem_cons_self .., h⟩
    · obtain ⟨l', h1, h2⟩ := hr.get hs he
      exact ⟨l', List.mem_cons_of_mem _ h1, h2⟩
theorem contains_push (seen : Array Nat) (b c : Nat) : (seen.push b).contains c = (seen.contains c || c == b) := by
  rw [Array.contains_eq_any_beq, Array.contains_eq_any_beq, Array.any_push]
theorem Mix.push_ne {base : Nat} {w : World} {seen : Array Nat} {f : Line → Line} {b : Nat} : ∀ {L : List Ent} {lead : List (Int × Line)}, Mix base w seen f L lead → (∀ e ∈ L, e.2.2 ≠ b) → Mix base w (seen.push b) f L lead
  | _, _, .nil, _ => .nil
  | _, _, .cons (b := b') h hr, hn => by
    have h1 := hn _ (List.mem_cons_self ..)
    have h2 : (b' == b) = false := by rw [beq_eq_false_iff_ne]; exact h1
    refine .cons ?_ (hr.push_ne fun e he => hn e (List.mem_cons_of_mem _ he))
    rw [contains_push, h2, Bool.or_false]; exact h
theorem Mix.same {base : Nat} {w : World} {seen : Array Nat} {f : Line → Line} {e : Ent} {l : Line} (hf : f l = l) : ∀ {L : List Ent} {lead : List (Int × Line)}, Mix base w seen f L lead → (L.map (·.2.2)).Nodup → (lead.map (·.1)).Nodup → e ∈ L → (e.1, l) ∈ lead → Mix base w (seen.push e.2.2) f L lead
  | _, _, .nil, _, _, h, _ => by cases h
  | _, _, .cons (k := k) (v := v) (b := b) (l := l') (L := L) (lead := lead) h hr, hn, hk, he, hl => by
    rw [List.map_cons, List.nodup_cons] at hn hk
    rcases List.mem_cons.1 he with rfl | he
    · have hll : l = l' := by
        rcases List.mem_cons.1 hl with e | hl
        · injection e with _ e
        · exact (hk.1 (List.mem_map.2 ⟨_, hl, rfl⟩)).elim
      subst hll
      refine .cons ?_ (hr.push_ne fun e' he' e2 => hn.1 (List.mem_map.2 ⟨e', he', e2⟩))
      rw [hf] at h ⊢
      simpa using h
    · have hne : b ≠ e.2.2 := fun e2 => hn.1 (List.mem_map.2 ⟨e, he, e2.symm⟩)
      have h2 : (b == e.2.2) = false := by rw [beq_eq_false_iff_ne]; exact hne
      refine .cons ?_ (hr.same hf hn.2 hk.2 he ?_)
      · rw [contains_push, h2, Bool.or_false]; exact h
      · rcases List.mem_cons.1 hl with e' | hl
        · injection e' with e1 _
          have : e.1 ∈ lead.map (·.1) := by rw [← hr.keys]; exact List.mem_map_of_mem he
          rw [e1] at this
          exact (hk.1 this).elim
        · exact hl
theorem Mix.put {base : Nat} {w : World} {seen : Array Nat} {f : Line → Line} {e : Ent} {l : Line} {v' : Value} (hv : LineAt base w v' (f l)) : ∀ {L : List Ent} {lead : List (Int × Line)}, Mix base w seen f L lead → (L.map (·.2.2)).Nodup → (lead.map (·.1)).Nodup → e ∈ L → (e.1, l) ∈ lead → Mix base w (seen.push e.2.2) f (putE e.1 v' L) lead
  | _, _, .nil, _, _, h, _ => by cases h
  | _, _, .cons (k := k) (v := v) (b := b) (l := l') (L := L) (lead := lead) h hr, hn, hk, he, hl => by
    rw [List.map_cons, List.nodup_cons] at hn hk
    rcases List.mem_cons.1 he with rfl | he
    · have hll : l = l' := by
        rcases List.mem_cons.1 hl with e | hl
        · injection e with _ e
        · exact (hk.1 (List.mem_map.2 ⟨_, hl, rfl⟩)).elim
      subst hll
      rw [putE, if_pos rfl]
      refine .cons ?_ (hr.push_ne fun e' he' e2 => hn.1 (List.mem_map.2 ⟨e', he', e2⟩))
      rw [contains_push]
      simpa using hv
    · have hne : b ≠ e.2.2 := fun e2 => hn.1 (List.mem_map.2 ⟨e, he, e2.symm⟩)
      have h2 : (b == e.2.2) = false := by rw [beq_eq_false_iff_ne]; exact hne
      have hkk : e.1 ≠ k := fun e1 => hk.1 (by
        have : e.1 ∈ lead.map (·.1) := by rw [← hr.keys]; exact List.mem_map_of_mem he
        rw [e1] at this; exact this)
      rw [putE, if_neg hkk]
      refine .cons ?_ (hr.put hv hn.2 hk.2 he ?_)
      · rw [contains_push, h2, Bool.or_false]; exact h
      · rcases List.mem_cons.1 hl with e' | hl
        · injection e' with e1 _
          exact (hkk e1).elim
        · exact hl
/-- How the new line turns a leading one. -/
def turn (c : Int) (x l : Line) : Line := if c ∈ l.1 then ladd l x else l
theorem upd_turn (lead : List (Int × Line)) (c : Int) (x : Line) : (lead.map fun p => (p.1, turn c x p.2)) = upd lead c x := by
  unfold upd turn
  refine List.map_congr_left fun p _ => ?_
  split <;> rfl
theorem Leads.nodup {n m : Nat} {lead : List (Int × Line)} (h : Leads n m lead) : (lead.map (·.1)).Nodup := by
  rw [List.Nodup, List.pairwise_map]
  refine h.apart.imp_of_mem ?_
  intro p q hp hq hpq e
  obtain ⟨r, hr⟩ := h.head q hq
  exact hpq.1 (by rw [e, hr]; exact List.mem_cons_self ..)
theorem findE_none {c : Int} {L : List Ent} (h : c ∉ L.map (·.1)) : findE c L = none := by
  unfold findE
  rw [Option.map_eq_none_iff, List.find?_eq_none]
  intro e he e1
  exact h (List.mem_map.2 ⟨e, he, by simpa using e1⟩)
theorem findE_some {c : Int} {L : List Ent} (h : c ∈ L.map (·.1)) : (findE c L).isSome = true := by
  cases hf : findE c L with
  | some _ => rfl
  | none =>
    unfold findE at hf
    rw [Option.map_eq_none_iff, List.find?_eq_none] at hf
    obtain ⟨e, he, rfl⟩ := List.mem_map.1 h
    exact (hf e he (by simp)).elim
theorem grown_keep {w w' : World} {v : Value} {base e size n k : Nat} {xs : List Value} {o : Obj} (ho : w.ownsRow base e size v n xs) (hg : w.grownBy w' v.ownBlock) (hk : w.heap[k]? = some o) (hne : ∀ cur, o ≠ .cells cur e (0, 0)) : w'.heap[k]? = some o := by
  refine (hg.block k (Array.getElem?_eq_some_iff.1 hk).1 fun h => ?_).trans hk
  rcases ho.2 with ⟨rfl, -⟩ | ⟨g, cap, cur, rfl, -, hgg, -⟩
  · cases h
  · injection h with h
    change k = g at h
    subst h
    rw [hgg] at hk
    injection hk with hk
    exact hne _ hk.symm
theorem grown_mv {w w' : World} {v : Value} {base e size n : Nat} {xs : List Value} (ho : w.ownsRow base e size v n xs) (hg : w.grownBy w' v.ownBlock) (he : e ≠ 3) (hb : base ≤ w.heap.size) : Mv base w w' :=
  ⟨(Below.refl base w).grown hg hb fun k hk => (ho.lt k hk).1, fun k cur fr h => grown_keep ho hg h fun cur' e' => by injection e' with _ e2; exact he e2.symm⟩
theorem wpList_appr {W : World} {ops : Array Oper} {rest : List Oper} {o : Oper} {a : Act} {Q : Exit → Act → World → Prop} {B n Bx c : Nat} {v u : Value} {us : List Value} (hgd : o.guard = none) (s x : Operand)
    (ho : o.op = .call { callee := .builtin .append, args := #[s, x], argTypes := #[22, 22] }) (hs : a.eval s = v) (hx : a.eval x = .slice (some ⟨Bx, 0, none⟩) 1 c)
    (hown : W.ownsRow B 33 1 v n us) (hc : W.cell? ⟨Bx, 0, none⟩ = some u) (h1 : u.oneCell' = true) (hn : n ≤ 1000000) (hB : B ≤ W.heap.size)
    (h : ∀ v' w', w'.ownsRow B 33 1 v' (n + 1) (us ++ [u]) → W.grownBy w' v.ownBlock → wpList Try.prog ops Q rest (a.put o.dst v') w') : wpList Try.prog ops Q (o :: rest) a W := by
  obtain ⟨i0, hi, hz0, hz1, hz2⟩ := info_parts info_ints
  refine wpList_append_own W hgd s x 22 ho B 33 i0 (.slice none 0 0) 1 24 Try.underlying22 hi hz0 hz1 hz2 rfl (by decide) v n us hs hown ⟨Bx, 0, none⟩ 1 c [u] hx rfl ?_ ?_ ?_ ?_ hB ?_
  · intro j y hj
    match j, hj with
    | 0, hj => simp at hj; subst hj; rw [add_none]; exact hc
  · intro y hy; simp at hy; subst hy; exact h1
  · unfold maxLen; omega
  · omega
  · intro v' w' h1 h2 _
    exact h v' w' h1 h2
/-- a store into the map, as a step that the walk leaves to a law. -/
def MapStep (o : Oper) (x y z : Value) (a : Act) (w : World) (K : Act → World → Prop) (Q : Exit → Act → World → Prop) : Prop := o.upon Try.prog a K Q ((do Instr.mapUpdate 55 x y z; pure Next.skip : Sem Next).run Try.prog w)
theorem map_open (dst : Option Tmp) (x y z : Operand) (ty : TypeId) (pos : String) (after : Array Edge) (guard : Option (Nat × Bool)) (a : Act) (w : World) (K : Act → World → Prop) (Q : Exit → Act → World → Prop) :
    Oper.wp Try.prog ⟨dst, .mapUpdate 55 x y z, ty, pos, after, guard⟩ a w K Q = MapStep ⟨dst, .mapUpdate 55 x y z, ty, pos, after, guard⟩ (a.eval x) (a.eval y) (a.eval z) a w K Q := rfl
theorem step_put {W : World} {M clock : Nat} {L : List Ent} {c : Int} {v : Value} {o : Oper} {a : Act} {K : Act → World → Prop} {Q : Exit → Act → World → Prop} (h : MapAt W M L clock) (hc : (findE c L).isSome = true)
    (hgo : ∀ w', MapAt w' M (putE c v L) clock → OnlyX M W w' → K (a.put o.dst undef) w') : MapStep o (.map (some M)) (.int .i64 c) v a W K Q := by
  obtain ⟨w', h1, h2, h3, h4, h5, h6, h7⟩ := run_put h c v hc
  unfold MapStep
  rw [Sem.run_bind, h1]
  exact hgo w' h2 ((OnlyX.refl M W).obj h3 h4 h5 h6 h7)
theorem step_new {W : World} {M clock : Nat} {L : List Ent} {c : Int} {v : Value} {o : Oper} {a : Act} {K : Act → World → Prop} {Q : Exit → Act → World → Prop} (h : MapAt W M L clock) (hc : findE c L = none)
    (hgo : ∀ w', MapAt w' M (L ++ [(c, v, clock)]) (clock + 1) → OnlyX M W w' → K (a.put o.dst undef) w') : MapStep o (.map (some M)) (.int .i64 c) v a W K Q := by
  obtain ⟨w', h1, h2, h3, h4, h5, h6, h7⟩ := run_new h c v hc
  unfold MapStep
  rw [Sem.run_bind, h1]
  exact hgo w' h2 ((OnlyX.refl M W).obj h3 h4 h5 h6 h7)
/-- How many entries are still to come. -/
def cnt (seen : Array Nat) (L : List Ent) : Nat := (L.filter fun e => !seen.contains e.2.2).length
theorem cnt_eq {seen : Array Nat} {L L' : List Ent} (h : L.map (·.2.2) = L'.map (·.2.2)) : cnt seen L = cnt seen L' := by
  have e : ∀ L : List Ent, cnt seen L = ((L.map (·.2.2)).filter fun b => !seen.contains b).length := fun L => by
    unfold cnt
    rw [List.filter_map, List.length_map]
    rfl
  rw [e, e, h]
theorem left_cnt (seen : Array Nat) (L : List Ent) : (leftOf (L.map Ent.put).toArray seen).size = cnt seen L := by
  unfold leftOf cnt
  rw [List.filter_toArray, List.size_toArray, List.filter_map, List.length_map]
  rfl
theorem left_mem {seen : Array Nat} {L : List Ent} {e : MapEntry} (h : e ∈ (leftOf (L.map Ent.put).toArray seen).toList) : ∃ e' ∈ L, e = Ent.put e' ∧ seen.contains e'.2.2 = false ∧ cnt (seen.push e'.2.2) L < cnt seen L := by
  have h1 := mem_left h
  have h2 := left_shrinks _ _ _ h
  rw [left_cnt, left_cnt] at h2
  obtain ⟨e', he, rfl⟩ := List.mem_map.1 (show e ∈ L.map Ent.put from h1.1)
  exact ⟨e', he, rfl, h1.2, h2⟩
theorem cnt_zero {seen : Array Nat} {L : List Ent} (h : cnt seen L = 0) : ∀ e ∈ L, seen.contains e.2.2 = true := by
  intro e he
  unfold cnt at h
  have := List.eq_nil_of_length_eq_zero h
  rw [List.filter_eq_nil_iff] at this
  simpa using this e he
/-- The iterator's block turned. -/
theorem iter_world {W w1 : World} {r : Nat} {o o' : Obj} (hr : W.heap[r]? = some o) (h : w1 = W ∨ w1 = W.drew) :
    (ChangeMaps.setBlock w1 r o').heap[r]? = some o' ∧ ∀ M, OnlyX r W (ChangeMaps.setBlock w1 r o') ∧ (M ≠ r → (ChangeMaps.setBlock w1 r o').heap[M]? = W.heap[M]?) := by
  have e : w1.heap = W.heap := by rcases h with rfl | rfl <;> rfl
  have e2 : w1.os = W.os ∧ w1.tape = W.tape ∧ w1.output = W.output := by rcases h with rfl | rfl <;> exact ⟨rfl, rfl, rfl⟩
  have hne : ∀ n, n ≠ r → (ChangeMaps.setBlock w1 r o').heap[n]? = W.heap[n]? := fun n hn => by rw [set_ne o' hn, e]
  exact ⟨set_at (by rw [e]; exact hr) _, fun M => ⟨⟨e2.1, e2.2.1, e2.2.2, by rw [set_size, e]; exact Nat.le_refl _, fun k _ hk => hne k hk⟩, fun h => hne M h⟩⟩
def SumX (M base : Nat) (w9 W : World) (xs : List Int) (e : Ending) (W' : World) : Prop := ∃ v, e = .returned v ∧ Vc base W' v xs ∧ Below W.heap.size W W' ∧ OnlyX M w9 W'
theorem vsumX (M base : Nat) (A B : List Int) (va vb : Value) (w9 W : World) (hA : Vc base W va A) (hB : Vc base W vb B) (hl : A.length + B.length ≤ 100000) (h : OnlyX M w9 W) :
    Calls Try.prog 21 #[va, vb] W (SumX M base w9 W (ssum A B)) :=
  (vsum_any base A B va vb W hA hB hl).mono fun e W' ⟨v, he, hv, hb⟩ => ⟨v, he, hv, hb, h.below hb⟩
theorem owns_grown {w w' : World} {v v2 : Value} {base e size n base2 e2 size2 n2 : Nat} {xs xs2 : List Value} (ho : w.ownsRow base e size v n xs) (hg : w.grownBy w' v.ownBlock) (h2 : w.ownsRow base2 e2 size2 v2 n2 xs2) (hne : e2 ≠ e) : w'.ownsRow base2 e2 size2 v2 n2 xs2 := by
  refine ⟨h2.1, ?_⟩
  rcases h2.2 with hn | ⟨g, cap, cur, rfl, hb, hgg, rest⟩
  · exact .inl hn
  · exact .inr ⟨g, cap, cur, rfl, hb, grown_keep ho hg hgg (fun _ e' => by injection e' with _ e3; exact hne e3), rest⟩
theorem info_line : (Try.prog.info? 51).map (fun i => (i.zero, i.size, i.bytes)) = some (some (.agg #[.slice none 0 0, .slice none 0 0]), 2, 48) := by kernel_rfl
theorem wpList_appl {W : World} {ops : Array Oper} {rest : List Oper} {o : Oper} {a : Act} {Q : Exit → Act → World → Prop} {B n Bx c : Nat} {v u1 u2 : Value} {us : List Value} (hgd : o.guard = none) (s x : Operand)
    (ho : o.op = .call { callee := .builtin .append, args := #[s, x], argTypes := #[47, 47] }) (hs : a.eval s = v) (hx : a.eval x = .slice (some ⟨Bx, 0, none⟩) 1 c)
    (hown : W.ownsRow B 51 2 v n us) (hc1 : W.cell? ⟨Bx, 0, none⟩ = some u1) (hc2 : W.cell? ⟨Bx, 1, none⟩ = some u2) (h1 : u1.oneCell' = true) (h2 : u2.oneCell' = true) (hn : n ≤ 1000000) (hB : B ≤ W.heap.size)
    (h : ∀ v' w', w'.ownsRow B 51 2 v' (n + 1) (us ++ [u1, u2]) → W.grownBy w' v.ownBlock → wpList Try.prog ops Q rest (a.put o.dst v') w') : wpList Try.prog ops Q (o :: rest) a W := by
  obtain ⟨i0, hi, hz0, hz1, hz2⟩ := info_parts info_line
  refine wpList_append_own W hgd s x 47 ho B 51 i0 (.agg #[.slice none 0 0, .slice none 0 0]) 2 48 Try.underlying47 hi hz0 hz1 hz2 rfl (by decide) v n us hs hown ⟨Bx, 0, none⟩ 1 c [u1, u2] hx rfl ?_ ?_ ?_ ?_ hB ?_
  · intro j y hj
    match j, hj with
    | 0, hj => simp at hj; subst hj; rw [add_none]; exact hc1
    | 1, hj => simp at hj; subst hj; rw [add_none]; exact hc2
  · intro y hy
    simp at hy
    rcases hy with rfl | rfl <;> assumption
  · unfold maxLen; omega
  · omega
  · intro v' w' h1 h2 _
    exact h v' w' h1 h2
def LinesSl (base : Nat) (w : World) (v : Value) (ls : List Line) : Prop := ∃ us, w.ownsRow base 51 2 v ls.length us ∧ LnL base w us ls
def RowsSl (base : Nat) (w : World) (v : Value) (rows : List (List Int)) : Prop := ∃ us, w.ownsRow base 33 1 v us.length us ∧ VcL base w us rows
theorem outRows_succ (j : Nat) (lead : List (Int × Line)) : outRows (j + 1) lead = outRows j lead ++ (look lead (j : Int)).toList := by
  unfold outRows
  rw [List.range_succ, List.filterMap_append]
  cases h : look lead (j : Int) <;> simp [h]
end Go.Proofs.Ytehjnlphfaojcaa
