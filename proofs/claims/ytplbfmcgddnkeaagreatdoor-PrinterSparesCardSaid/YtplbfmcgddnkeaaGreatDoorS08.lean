/- Joined: Wh, Po, Par, PlainN. -/
import Derived.Test.YtplbfmcgddnkeaaGreatDoorProg
import Derived.Deep.RegionHeld3
import Derived.RegionTactic
import Derived.RegionDies
import Derived.Lib.AtoiAll
import Derived.Test.YtplbfmcgddnkeaaGreatDoorS07
import Derived.Test.YtplbfmcgddnkeaaGreatDoorS06
import Derived.Test.YtplbfmcgddnkeaaGreatDoorS03
import Derived.Test.YtplbfmcgddnkeaaGreatDoorS01
set_option linter.unusedVariables false
set_option linter.unusedSimpArgs false
section
set_option maxHeartbeats 1000000
set_option maxRecDepth 100000
namespace Go.Proofs.YtplbfmcgddnkeaaGreatDoor
theorem decGo_len : ∀ (f n : Nat) (l : List UInt8), n < 10 ^ f → (decGo f n l).length ≤ f + l.length := by
  intro f
  induction f with
  | zero => intro n l h; rw [decGo]; omega
  | succ f ih =>
    intro n l h
    rw [decGo]
    split
    · simp; omega
    · have := ih (n / 10) (UInt8.ofNat (48 + n % 10) :: l) (by rw [Nat.pow_succ] at h; omega)
      rw [List.length_cons] at this
      omega
theorem dec_len {n : Nat} (h : n ≤ 1048576) : (dec n).length ≤ 7 := by
  unfold dec
  by_cases h0 : n < 7
  · have := decGo_len (n + 1) n [] (Nat.lt_of_lt_of_le (show n < 10 ^ 1 by omega) (Nat.pow_le_pow_right (by omega) (by omega)))
    simp only [List.length_nil] at this
    omega
  · have e : ∀ (g f m : Nat) (l : List UInt8), m < 10 ^ g → 0 < g → (decGo (g + f) m l) = decGo g m l := by
      intro g
      induction g with
      | zero => intro f m l h h0; omega
      | succ g ih =>
        intro f m l h h0
        rw [show g + 1 + f = g + f + 1 by omega, decGo, decGo]
        split
        · rfl
        · rcases Nat.eq_zero_or_pos g with rfl | h'
          · omega
          · exact ih _ _ _ (by rw [Nat.pow_succ] at h; omega) h'
    have := e 7 (n - 6) n [] (by omega) (by omega)
    rw [show 7 + (n - 6) = n + 1 by omega] at this
    rw [this]
    have := decGo_len 7 n [] (by omega)
    simpa using this
theorem nat_le {n : Int} (h : natB n = true) : n.toNat ≤ 1048576 := by
  unfold natB at h
  simp at h
  omega
theorem par_len (b : Bool) (s : List UInt8) : (par b s).length ≤ s.length + 2 := by
  unfold par
  split
  · simp
  · omega
theorem num_dec {t : Syn} (h : isNum t = true) : (dec t.num.toNat).length ≤ 7 := by
  unfold isNum at h
  simp only [Bool.and_eq_true] at h
  exact dec_len (nat_le h.1.2)
theorem wrc_len : ∀ (m : Nat) (t : Syn), SizeOf.sizeOf t < m → okc t = true → (wrc t).length ≤ mass t := by
  intro m
  induction m with
  | zero => intro t h; omega
  | succ m ih =>
    intro t hm ho
    rcases t with ⟨kd, tx, n, p, _ | ⟨a, _ | ⟨b, _ | ⟨c, l⟩⟩⟩⟩
    · rw [mass_mk]
      rw [wrc]
      split
      · rename_i hk
        rw [okc] at ho
        rcases Bool.or_eq_true _ _ ▸ ho with h | h
        · have := num_dec h
          simp only [Syn.num] at this
          omega
        · simp [isNm, Syn.kind, hk] at h
      · omega
    · simp only [Syn.mk.sizeOf_spec, List.cons.sizeOf_spec, List.nil.sizeOf_spec] at hm
      have oa : okc a = true := by simp [okc] at ho; rcases ho with h | h <;> exact h.2
      have h1 := ih a (by omega) oa
      rw [mass_mk, massL_cons, massL_nil, wrc]
      split
      · have := par_len (decide (lvl 0 a < 2)) (wrc a)
        simp only [List.length_append, List.length_cons]
        have : kNot.length = 3 := rfl
        omega
      · have := par_len (decide (lvl 0 a < 4)) (wrc a)
        simp only [List.length_append, List.length_cons, List.length_nil]
        omega
    · simp only [Syn.mk.sizeOf_spec, List.cons.sizeOf_spec, List.nil.sizeOf_spec] at hm
      have ob : okc b = true := by
        simp only [okc, Bool.or_eq_true, Bool.and_eq_true] at ho
        rcases ho with (h | h) | h <;> exact h.2
      have h2 := ih b (by omega) ob
      rw [mass_mk, massL_cons, massL_cons, massL_nil, wrc]
      have ha : a.text.length ≤ mass a := by rcases a with ⟨k, t, n, p, l⟩; rw [mass_mk]; simp only [Syn.text]; omega
      have pb := fun q => par_len q (wrc b)
      split
      · split
        · have := pb true
          simp only [List.length_append, List.length_cons]
          omega
        · simp only [List.length_append, List.length_cons]
          omega
      · have oa : okc a = true := by
          simp only [okc, Bool.or_eq_true, Bool.and_eq_true] at ho
          rcases ho with (h | h) | h
          · rename_i hk; exact absurd (of_decide_eq_true h.1.1.1.1) hk
          · exact h.1.2
          · exact h.1.2
        have h1 := ih a (by omega) oa
        split
        · have := par_len (decide (lvl 0 a < 4)) (wrc a)
          have := pb (decide (lvl 0 b < 4))
          simp only [List.length_append, List.length_cons, List.length_nil]
          omega
        · have := par_len (looseB tx a || decide (lvl 0 a < lft 0 tx)) (wrc a)
          have := pb (decide (lvl 0 b < rgt 0 tx))
          simp only [List.length_append, List.length_cons]
          omega
    · simp [okc] at ho
theorem wrs_len : ∀ (m : Nat) (t : Syn), SizeOf.sizeOf t < m → oks t = true → (wrs t).length ≤ mass t := by
  intro m
  induction m with
  | zero => intro t h; omega
  | succ m ih =>
    intro t hm ho
    rcases t with ⟨kd, tx, n, p, _ | ⟨a, _ | ⟨b, _ | ⟨c, l⟩⟩⟩⟩
    · rw [mass_mk, wrs]; omega
    · have oa : okc a = true := by
        simp only [oks, Bool.or_eq_true, Bool.and_eq_true] at ho
        rcases ho.2 with h | h
        · exact h.2
        · exact okc_numW h.2
      have h1 := wrc_len _ a (Nat.lt_succ_self _) oa
      rw [mass_mk, massL_cons, massL_nil, wrs]
      simp only [List.length_append, List.length_cons, List.length_nil]
      omega
    · simp only [Syn.mk.sizeOf_spec, List.cons.sizeOf_spec, List.nil.sizeOf_spec] at hm
      simp only [oks, Bool.and_eq_true] at ho
      have h1 := ih a (by omega) ho.1.2
      have h2 := ih b (by omega) ho.2
      have := par_len (decide (lvl 1 a < lft 1 tx)) (wrs a)
      have := par_len (decide (lvl 1 b < rgt 1 tx)) (wrs b)
      have hn : (if tx = kThen then dec n.toNat ++ [32] else []).length ≤ 8 := by
        split
        · rename_i ht
          rw [if_pos ht] at ho
          have := dec_len (nat_le ho.1.1.2)
          simp; omega
        · simp
      rw [mass_mk, massL_cons, massL_cons, massL_nil, wrs]
      simp only [List.length_append, List.length_cons] at hn ⊢
      omega
    · simp [oks] at ho
theorem commas_len (l : List Syn) (h : l.all isNum = true) : (commas (l.map fun x => dec x.num.toNat)).length ≤ massL l := by
  induction l with
  | nil => simp [commas, massL_nil]
  | cons x l ih =>
    simp only [List.all_cons, Bool.and_eq_true] at h
    have h1 := num_dec h.1
    have h2 := ih h.2
    have h3 : 70 ≤ mass x := by rcases x with ⟨a, b, c, d, e⟩; rw [mass_mk]; omega
    rw [massL_cons]
    cases l with
    | nil => simp [commas]; omega
    | cons y l =>
      simp only [List.map_cons, commas, List.length_append, List.length_cons] at h2 ⊢
      omega
theorem warg_len {t : Syn} (h : isNum t = true ∨ isSet t = true) : (warg t).length ≤ mass t := by
  have h3 : 70 + 2 * t.text.length + massL t.kids = mass t := by rcases t with ⟨a, b, c, d, e⟩; rw [mass_mk]; rfl
  rcases h with h | h
  · have h1 := num_dec h
    unfold warg
    unfold isNum at h
    simp only [Bool.and_eq_true, decide_eq_true_eq] at h
    rw [if_pos h.1.1.1]
    omega
  · unfold warg
    unfold isSet at h
    simp only [Bool.and_eq_true, decide_eq_true_eq] at h
    rw [if_neg (by rw [h.1.1]; decide)]
    unfold wset
    split
    · rename_i ht
      rw [ht] at h
      simp only [Bool.or_eq_true, Bool.and_eq_true] at h
      have h4 : t.kids.all isNum = true := by
        rcases h.2 with h | h
        · exact absurd h.1 (by decide)
        · exact h.2
      have := commas_len _ h4
      simp only [List.length_append, List.length_cons, List.length_nil]
      omega
    · omega
theorem wrf_len : ∀ (m : Nat) (t : Syn), SizeOf.sizeOf t < m → okf t = true → (wrf t).length ≤ mass t := by
  intro m
  induction m with
  | zero => intro t h; omega
  | succ m ih =>
    intro t hm ho
    rcases t with ⟨kd, tx, n, p, _ | ⟨a, _ | ⟨b, _ | ⟨c, l⟩⟩⟩⟩
    · rw [mass_mk, wrf]; omega
    · simp only [Syn.mk.sizeOf_spec, List.cons.sizeOf_spec, List.nil.sizeOf_spec] at hm
      rw [mass_mk, massL_cons, massL_nil, wrf]
      simp only [okf, Bool.or_eq_true, Bool.and_eq_true, decide_eq_true_eq] at ho
      split
      · rename_i hk
        have oa : okf a = true := by
          rcases ho with h | h
          · exact h.2
          · rw [hk] at h; exact absurd h.1.1 (by decide)
        have := ih a (by omega) oa
        have := par_len (decide (lvl 2 a < 3)) (wrf a)
        simp only [List.length_append, List.length_cons]
        have : kNot.length = 3 := rfl
        omega
      · rename_i hk
        have ho : fone.contains tx = true ∧ isNum a = true ∨ ftim.contains tx = true ∧ okf a = true := by
          rcases ho with h | h
          · exact absurd h.1.1.1 hk
          · exact h.2
        split
        · rename_i hf
          have oa : isNum a = true := by
            rcases ho with h | h
            · exact h.2
            · exfalso
              have h1 := List.contains_iff_mem.1 hf
              have h2 := h.1
              simp only [List.mem_cons, List.not_mem_nil, or_false] at h1
              rcases h1 with rfl | rfl | rfl <;> exact absurd h2 (by decide)
          have := warg_len (Or.inl oa)
          simp only [List.length_append, List.length_cons, List.length_nil]
          omega
        · rename_i hf
          have oa : okf a = true := by
            rcases ho with h | h
            · exact absurd h.1 hf
            · exact h.2
          have := ih a (by omega) oa
          simp only [List.length_append, List.length_cons, List.length_nil]
          omega
    · simp only [Syn.mk.sizeOf_spec, List.cons.sizeOf_spec, List.nil.sizeOf_spec] at hm
      rw [mass_mk, massL_cons, massL_cons, massL_nil, wrf]
      simp only [okf, Bool.or_eq_true, Bool.and_eq_true, decide_eq_true_eq] at ho
      split
      · rename_i hk
        have ho : (ftwo.contains tx = true ∧ isNum a = true) ∧ isNum b = true ∨ (ftwo.contains tx = false ∧ (isNum a = true ∨ isSet a = true)) ∧ okf b = true := by
          rcases ho with h | h
          · rcases h.2 with (h | h) | h
            · exact Or.inl h
            · have e : tx = [75] := by simpa using h.1.1
              exact Or.inr ⟨⟨by rw [e]; decide, Or.inl h.1.2⟩, h.2⟩
            · have e := List.contains_iff_mem.1 h.1.1
              simp only [List.mem_cons, List.not_mem_nil, or_false] at e
              exact Or.inr ⟨⟨by rcases e with rfl | rfl | rfl <;> decide, Or.inr h.1.2⟩, h.2⟩
          · rw [hk] at h; exact absurd h.1.1.1.1 (by decide)
        have oa : isNum a = true ∨ isSet a = true := by
          rcases ho with h | h
          · exact Or.inl h.1.2
          · exact h.1.2
        have := warg_len oa
        split
        · rename_i hf
          have ob : isNum b = true := by
            rcases ho with h | h
            · exact h.2
            · rw [hf] at h; exact absurd h.1.1 (by decide)
          have := warg_len (Or.inl ob)
          simp only [List.length_append, List.length_cons, List.length_nil]
          omega
        · rename_i hf
          have ob : okf b = true := by
            rcases ho with h | h
            · exact absurd h.1.1 hf
            · exact h.2
          have := ih b (by omega) ob
          simp only [List.length_append, List.length_cons, List.length_nil]
          omega
      · rename_i hk
        have ho : okf a = true ∧ okf b = true := by
          rcases ho with h | h
          · exact absurd h.1.1 hk
          · exact ⟨h.1.2, h.2⟩
        have := ih a (by omega) ho.1
        have := ih b (by omega) ho.2
        have := par_len (decide (lvl 2 a < lft 2 tx)) (wrf a)
        have := par_len (decide (lvl 2 b < rgt 2 tx)) (wrf b)
        simp only [List.length_append, List.length_cons]
        omega
    · simp [okf] at ho
end Go.Proofs.YtplbfmcgddnkeaaGreatDoor
end
section
set_option maxHeartbeats 1000000
set_option maxRecDepth 100000
namespace Go.Proofs.YtplbfmcgddnkeaaGreatDoor
open Go.RowKit
theorem dec_digits : ∀ (f n : Nat) (l : List UInt8), n < f → decGo f n l = Lib.decDigits n ++ l := by
  intro f
  induction f with
  | zero => intro n l h; omega
  | succ f ih =>
    intro n l h
    rw [decGo, Lib.decDigits]
    split
    · rfl
    · rw [ih _ _ (by omega), List.append_assoc]; rfl
theorem dec_eq (n : Nat) : dec n = Lib.decDigits n := by
  unfold dec
  rw [dec_digits _ _ _ (Nat.lt_succ_self _), List.append_nil]
abbrev TabW (w : World) : Prop := Lib.TabIs Tryz.prog w "internal/strconv.uint64pow10" .u64 Lib.pow10Tab
theorem tab_low {w w' : World} (h : TabW w) (hb : Below w.heap.size w w') : TabW w' := by
  unfold TabW Lib.TabIs World.var? at h ⊢
  cases hg : Tryz.prog.globalNamed "internal/strconv.uint64pow10" with
  | none => rw [hg] at h; simp at h
  | some g =>
    rw [hg] at h
    simp only [Option.bind_some] at h ⊢
    have hlt : g < w.heap.size := by
      rcases Nat.lt_or_ge g w.heap.size with h' | h'
      · exact h'
      · simp [Array.getElem?_eq_none h'] at h
    rw [hb.block g hlt]
    exact h
theorem below_grow (w : World) (os : Array Obj) : Below w.heap.size w (Go.Sort.grow w os) := ⟨rfl, rfl, rfl, by simp [Go.Sort.grow], fun k hk => by simp only [Go.Sort.grow]; rw [Array.getElem?_append_left hk]⟩
theorem itoa_any {n : Int} (hn : natB n = true) (w : World) (ht : TabW w) : Calls Tryz.prog 54 #[.int .i64 n] w fun e w' => e = .returned (.string ⟨(dec n.toNat).toArray⟩) ∧ Below w.heap.size w w' := by
  have h0 : 0 ≤ n ∧ n ≤ 1048576 := by unfold natB at hn; simpa using hn
  refine (Tryz.strconv_Itoa n (by omega) (by omega) w ht).mono ?_
  rintro e w' ⟨rfl, k, os, rfl⟩
  refine ⟨?_, ?_⟩
  · rw [Lib.itoa, if_neg (by omega), dec_eq]
  · have h1 : Below w.heap.size w (w.drewN k) := ⟨rfl, rfl, rfl, Nat.le_refl _, fun _ _ => rfl⟩
    exact h1.trans ((below_grow _ _).mono h1.size)
def NodeOk (k : Nat) (t : Syn) : Prop := okP k t = true ∨ (k = 2 ∧ (isNum t = true ∨ isSet t = true))
def wrN (k : Nat) (t : Syn) : List UInt8 := if k = 0 then wrc t else if k = 1 then wrs t else if t.kind = 9 ∨ t.kind = 14 then warg t else wrf t
abbrev boxed3 (w : World) (b : Nat) (x k : Int) (tx : List UInt8) (n a : Int) (p : Option Addr) (m c : Nat) : World := boxed ((w.alloc (.cells #[.pointer (some ⟨b, 0, none⟩)] 110)).alloc (.cells #[.int .i64 x] 3)) k tx n a p m c
structure Fr3 (b : Nat) (w1 : World) (s : Nat) (x k : Int) (tx : List UInt8) (n a : Int) (p : Option Addr) (m c : Nat) : Prop where
  hw : w1.heap[s]? = some (.cells #[.pointer (some ⟨b, 0, none⟩)] 110 (0, 0))
  hk : w1.heap[s + 1]? = some (.cells #[.int .i64 x] 3 (0, 0))
  ht : w1.heap[s + 1 + 1]? = some (.cells #[.int .i64 k, .string ⟨List.toArray tx⟩, .int .i64 n, .int .i64 a, .slice p m c] 24 (0, 0))
  lt : b < s
theorem boxed3_below (w : World) (b : Nat) (x k : Int) (tx : List UInt8) (n a : Int) (p : Option Addr) (m c : Nat) : Below w.heap.size w (boxed3 w b x k tx n a p m c) :=
  (((Below.refl _ _).alloc (Nat.le_refl _) _).alloc (by rw [World.size_alloc]; omega) _).alloc (by rw [World.size_alloc, World.size_alloc]; omega) _
theorem boxed3_fr {w : World} {b : Nat} (hb : b < w.heap.size) (x k : Int) (tx : List UInt8) (n a : Int) (p : Option Addr) (m c : Nat) : Fr3 b (boxed3 w b x k tx n a p m c) w.heap.size x k tx n a p m c := by
  have e1 : (w.alloc (.cells #[.pointer (some ⟨b, 0, none⟩)] 110)).heap.size = w.heap.size + 1 := World.size_alloc ..
  have e2 : ((w.alloc (.cells #[.pointer (some ⟨b, 0, none⟩)] 110)).alloc (.cells #[.int .i64 x] 3)).heap.size = w.heap.size + 2 := by rw [World.size_alloc, e1]
  refine ⟨?_, ?_, ?_, hb⟩
  · unfold boxed3 boxed
    rw [Lib.alloc_old _ _ _ (by rw [e2]; omega), Lib.alloc_old _ _ _ (by rw [e1]; omega)]
    exact heap_alloc_new _ _
  · unfold boxed3 boxed
    rw [Lib.alloc_old _ _ _ (by rw [e2]; omega)]
    have := heap_alloc_new (w.alloc (.cells #[.pointer (some ⟨b, 0, none⟩)] 110)) (.cells #[.int .i64 x] 3)
    rw [e1] at this
    exact this
  · have := boxed_new ((w.alloc (.cells #[.pointer (some ⟨b, 0, none⟩)] 110)).alloc (.cells #[.int .i64 x] 3)) k tx n a p m c
    rw [e2] at this
    exact this
theorem own_at {B b P o : Nat} {W W' : World} {cs : Array Value} {T : TypeId} {v : Value} (hP : W.heap[P]? = some (.cells cs T (0, 0))) (hT : T ≠ 5) (hb : b < P) (hv : cs[o]? = some v) (h : WRel B b W W') : W'.cell? ⟨P, o, none⟩ = some v := by
  rw [own_keep hP hT (by omega) h, World.cell?, hP]
  simpa using hv
section
variable {B b : Nat} {w1 : World} {s : Nat} {x k : Int} {tx : List UInt8} {n a : Int} {p : Option Addr} {m c : Nat}
theorem Fr3.w (h : Fr3 b w1 s x k tx n a p m c) {W : World} (hr : WRel B b w1 W) : W.cell? ⟨s, 0, none⟩ = some (.pointer (some ⟨b, 0, none⟩)) := own_at h.hw (by decide) h.lt rfl hr
theorem Fr3.kd (h : Fr3 b w1 s x k tx n a p m c) {W : World} (hr : WRel B b w1 W) : W.cell? ⟨s + 1, 0, none⟩ = some (.int .i64 x) := own_at h.hk (by decide) (Nat.lt_succ_of_lt h.lt) rfl hr
theorem Fr3.t0 (h : Fr3 b w1 s x k tx n a p m c) {W : World} (hr : WRel B b w1 W) : W.cell? ⟨s + 1 + 1, 0, none⟩ = some (.int .i64 k) := own_at h.ht (by decide) (by have := h.lt; omega) rfl hr
theorem Fr3.t1 (h : Fr3 b w1 s x k tx n a p m c) {W : World} (hr : WRel B b w1 W) : W.cell? ⟨s + 1 + 1, 1, none⟩ = some (.string ⟨List.toArray tx⟩) := own_at h.ht (by decide) (by have := h.lt; omega) rfl hr
theorem Fr3.t2 (h : Fr3 b w1 s x k tx n a p m c) {W : World} (hr : WRel B b w1 W) : W.cell? ⟨s + 1 + 1, 2, none⟩ = some (.int .i64 n) := own_at h.ht (by decide) (by have := h.lt; omega) rfl hr
theorem Fr3.t3 (h : Fr3 b w1 s x k tx n a p m c) {W : World} (hr : WRel B b w1 W) : W.cell? ⟨s + 1 + 1, 3, none⟩ = some (.int .i64 a) := own_at h.ht (by decide) (by have := h.lt; omega) rfl hr
theorem Fr3.t4 (h : Fr3 b w1 s x k tx n a p m c) {W : World} (hr : WRel B b w1 W) : W.cell? ⟨s + 1 + 1, 4, none⟩ = some (.slice p m c) := own_at h.ht (by decide) (by have := h.lt; omega) rfl hr
end
theorem WSt.add {w0 w1 : World} {B b : Nat} {l : List UInt8} {W : World} (h : WSt w0 w1 B b l W) (ss : List (List UInt8)) (hn : ss.length ≤ 100) (hlen : l.length + ss.flatten.length ≤ 140737488355328) :
    Calls Tryz.prog 53 #[.pointer (some ⟨b, 0, none⟩), .slice (some ⟨W.heap.size, 0, none⟩) ss.length ss.length] (W.alloc (.cells (ss.map fun s => Value.string ⟨s.toArray⟩).toArray 9)) fun e W' => e = .returned (.tuple #[]) ∧ WSt w0 w1 B b (l ++ ss.flatten) W' := by
  have h2 := h.step ((Below.refl _ _).alloc (Nat.le_refl _) (.cells (ss.map fun s => Value.string ⟨s.toArray⟩).toArray 9))
  refine (add_any w0 _ B b l ss W.heap.size h2.fresh (heap_alloc_new _ _) hlen (by omega)).mono ?_
  rintro e W' ⟨he, hst⟩
  exact ⟨he, h2.call hst⟩
theorem WSt.addD {w0 w1 : World} {B b : Nat} {l : List UInt8} {W : World} (h : WSt w0 w1 B b l W) (ss : List (List UInt8)) (hn : ss.length ≤ 100) (hlen : l.length + ss.flatten.length ≤ 140737488355328) :
    Calls Tryz.prog 53 #[.pointer (some ⟨b, 0, none⟩), .slice (some ⟨W.heap.size, 0, none⟩) ss.length ss.length] (W.alloc (.cells (ss.map fun s => Value.string ⟨s.toArray⟩).toArray 9)).drew fun e W' => e = .returned (.tuple #[]) ∧ WSt w0 w1 B b (l ++ ss.flatten) W' := by
  have h2 := h.step ((Below.refl _ _).alloc (Nat.le_refl _) (.cells (ss.map fun s => Value.string ⟨s.toArray⟩).toArray 9)).drew
  refine (add_any w0 _ B b l ss W.heap.size h2.fresh (heap_alloc_new _ _) hlen (by omega)).mono ?_
  rintro e W' ⟨he, hst⟩
  exact ⟨he, h2.call hst⟩
theorem WRel.step {B b : Nat} {w1 W W' : World} (h : WRel B b w1 W) (hB : B ≤ w1.heap.size) (hb : Below W.heap.size W W') : WRel B b w1 W' := h.trans (.of_below (Nat.le_trans hB h.size) hb)
theorem nname_any (k : Nat) (tx : List UInt8) (n a : Int) (q : Option Addr) (m d : Nat) (w0 w : World) (B b : Nat) (l : List UInt8) (hst : WSt w0 w B b l w) (hlen : l.length + tx.length ≤ 140737488355328) :
    Calls Tryz.prog 57 #[.pointer (some ⟨b, 0, none⟩), .int .i64 k, (Value.agg #[.int .i64 8, .string ⟨List.toArray tx⟩, .int .i64 n, .int .i64 a, .slice q m d])] w (WPost w0 w B b (l ++ tx)) := by
  have hFr := boxed3_fr (wr_lt hst.wr).2 k 8 tx n a q m d
  have hst1 := hst.step (boxed3_below w b k 8 tx n a q m d)
  have hB1 : B ≤ (boxed3 w b k 8 tx n a q m d).heap.size := Nat.le_trans hst.ge (boxed3_below w b k 8 tx n a q m d).size
  unfold boxed3 boxed at hFr hst1 hB1
  go_enter Tryz.func57, Tryz.ntmps57
  go_upto_region 5 with (fail)
  generalize World.alloc (World.alloc (World.alloc w _) _) _ = w1 at hFr hst1 hB1 ⊢
  generalize w.heap.size = s at hFr ⊢
  have hR := WRel.refl B b w1
  have g0 := hFr.w hR
  have g1 := hFr.kd hR
  have c0 := hFr.t0 hR
  have c1 := hFr.t1 hR
  have c2 := hFr.t2 hR
  have c3 := hFr.t3 hR
  have c4 := hFr.t4 hR
  have hst2 := Lib.hid (hst1.fresh)
  replace hst1 := Lib.hid hst1
  have hA := fun W (h : Below w1.heap.size w1 W) => (hst2.out.step h).add [tx] (by simp) (by simpa using hlen)
  simp only [List.flatten_cons, List.flatten_nil, List.append_nil, List.map_cons, List.map_nil, List.length_cons, List.length_nil] at hA
  replace hA := Lib.hid hA
  go_wp2_with (first | (go_at_call 53; (with_reducible refine (hA.out _ (Below.refl _ _)).mono ?_); rintro e x5 ⟨rfl, hst3⟩))
  all_goals
    go_end0
    exact ⟨rfl, hst1.out.call hst3⟩
theorem kid_rel {w0 w1 W : World} {B b bb o : Nat} {t : Syn} {q : Option Addr} {d : Nat} (hc : KidC w0 bb o t q d) (ht : Below w0.heap.size w0 w1) (hl : w0.heap.size ≤ B) (hr : WRel B b w1 W) : KidC W bb o t q d :=
  kidC_low hc (ht.trans (hr.below.mono hl))
theorem itoa_rel {n : Int} (hn : natB n = true) {w0 w1 cur : World} {B b : Nat} (ht : TabW w0) (htr : Below w0.heap.size w0 cur) (hB : B ≤ w1.heap.size) (W : World) (h1 : WRel B b w1 W) (h2 : Below cur.heap.size cur W) : Calls Tryz.prog 54 #[.int .i64 n] W fun e w' => e = .returned (.string ⟨(dec n.toNat).toArray⟩) ∧ WRel B b w1 w' ∧ Below cur.heap.size cur w' := by
  refine (itoa_any hn W (tab_low ht (htr.trans (h2.mono htr.size)))).mono ?_
  rintro e w' ⟨he, hb⟩
  exact ⟨he, h1.step hB hb, h2.trans (hb.mono h2.size)⟩
theorem wrel_drew {B b : Nat} {w1 W : World} (h : WRel B b w1 W) : WRel B b w1 W.drew := ⟨h.below.drew, h.keeps, h.size⟩
theorem wrel_alloc {B b : Nat} {w1 W : World} (h : WRel B b w1 W) (hB : B ≤ w1.heap.size) (o : Obj) : WRel B b w1 (W.alloc o) := h.step hB ((Below.refl _ _).alloc (Nat.le_refl _) _)
end Go.Proofs.YtplbfmcgddnkeaaGreatDoor
end
section
set_option maxHeartbeats 1000000
set_option maxRecDepth 100000
namespace Go.Proofs.YtplbfmcgddnkeaaGreatDoor
open Go.RowKit
def TokAt (w : World) (g : Nat) (ts : List Tok) : Prop := g < w.heap.size ∧ ∀ k (h : k < ts.length), w.cell? ⟨g, k * 3, none⟩ = some (.int .i64 ts[k].kind) ∧ w.cell? ⟨g, k * 3 + 1, none⟩ = some (.string ⟨ts[k].text.toArray⟩) ∧ w.cell? ⟨g, k * 3 + 2, none⟩ = some (.int .i64 ts[k].pos)
structure Only (p : Nat) (w w' : World) : Prop where
  os : w'.os = w.os
  tape : w'.tape = w.tape
  output : w'.output = w.output
  size : w.heap.size ≤ w'.heap.size
  block : ∀ k, k < w.heap.size → k ≠ p → w'.heap[k]? = w.heap[k]?
theorem Only.refl (p : Nat) (w : World) : Only p w w := ⟨rfl, rfl, rfl, Nat.le_refl _, fun _ _ _ => rfl⟩
theorem Only.trans {p : Nat} {a b c : World} (h : Only p a b) (k : Only p b c) : Only p a c :=
  ⟨k.os.trans h.os, k.tape.trans h.tape, k.output.trans h.output, Nat.le_trans h.size k.size, fun i hi hp => (k.block i (Nat.lt_of_lt_of_le hi h.size) hp).trans (h.block i hi hp)⟩
theorem Only.of_below {p : Nat} {a b : World} (h : Below a.heap.size a b) : Only p a b := ⟨h.os, h.tape, h.output, h.size, fun k hk _ => h.block k hk⟩
theorem Only.set (p o : Nat) (w : World) (v : Value) : Only p w (w.setCell ⟨p, o, none⟩ v) := ⟨rfl, rfl, rfl, by simp [World.setCell], fun k _ hk => Below.heap_setCell _ _ _ _ hk⟩
theorem Only.alloc (p : Nat) (w : World) (o : Obj) : Only p w (w.alloc o) := Only.of_below ((Below.refl _ _).alloc (Nat.le_refl _) o)
theorem Only.drew (p n : Nat) (w : World) : Only p w (w.drewN n) := Only.of_below ((Below.refl _ _).trans ⟨rfl, rfl, rfl, Nat.le_refl _, fun _ _ => rfl⟩)
theorem Only.own {p B o : Nat} {w w' : World} (h : Only p w w') (hB : w.heap.size ≤ B) (v : Value) : Only p w (w'.setCell ⟨B, o, none⟩ v) :=
  ⟨h.os, h.tape, h.output, by simpa [World.setCell] using h.size, fun k hk hp => by rw [Below.heap_setCell _ _ _ _ (by show k ≠ B; omega)]; exact h.block k hk hp⟩
theorem Only.below {p : Nat} {w w' : World} {B : Nat} (h : Only p w w') (hp : B ≤ p) (hB : B ≤ w.heap.size) : Below B w w' := ⟨h.os, h.tape, h.output, h.size, fun k hk => h.block k (by omega) (by omega)⟩
theorem TokAt.only {p : Nat} {w w' : World} {g : Nat} {ts : List Tok} (h : TokAt w g ts) (hb : Only p w w') (hg : g ≠ p) : TokAt w' g ts :=
  ⟨Nat.lt_of_lt_of_le h.1 hb.size, fun k hk => by
    have hc : ∀ o, w'.cell? ⟨g, o, none⟩ = w.cell? ⟨g, o, none⟩ := fun o => by simp only [World.cell?, hb.block g h.1 hg]
    rw [hc, hc, hc]; exact h.2 k hk⟩
theorem SpaceAt.block {w w' : World} (h : SpaceAt w) (hb : w'.heap[4]? = w.heap[4]?) : SpaceAt w' := by
  unfold SpaceAt Lib.TabIs World.var? at *
  rw [show Tryz.prog.globalNamed "strings.asciiSpace" = some 4 from by kernel_rfl] at *
  simp only [Option.bind_some] at *
  rw [hb]; exact h
theorem SpaceAt.lt {w : World} (h : SpaceAt w) : 4 < w.heap.size := by
  unfold SpaceAt Lib.TabIs World.var? at h
  rw [show Tryz.prog.globalNamed "strings.asciiSpace" = some 4 from by kernel_rfl] at h
  simp only [Option.bind_some] at h
  rcases Nat.lt_or_ge 4 w.heap.size with h' | h'
  · exact h'
  · simp [Array.getElem?_eq_none h'] at h
def NumOk (T : List Tok) : Prop := ∀ t ∈ T, t.kind = 1 → t.text ≠ [] ∧ (∀ c ∈ t.text, isDigit c.toNat = true) ∧ dv 0 t.text ≤ 1048576 ∧ t.text.length ≤ 1000000
structure PS (pb tb c : Nat) (T : List Tok) (i lv : Nat) (w : World) : Prop where
  blk : w.heap[pb]? = some (.cells #[.slice (some ⟨tb, 0, none⟩) T.length c, .int .i64 i, .int .i64 lv] 93 (0, 0))
  toks : TokAt w tb T
  ne : tb ≠ pb
  lt : i < T.length
  size : T.length ≤ 100000
  level : lv ≤ 1000
  nums : NumOk T
  space : SpaceAt w
  gne : 4 < pb
  last : (tk T (T.length - 1)).kind = 3
theorem PS.pos {pb tb c i lv : Nat} {T : List Tok} {w : World} (h : PS pb tb c T i lv w) : pb < w.heap.size := (Array.getElem?_eq_some_iff.1 h.blk).1
theorem PS.below {pb tb c i lv : Nat} {T : List Tok} {w w' : World} (h : PS pb tb c T i lv w) (hb : Below w.heap.size w w') : PS pb tb c T i lv w' :=
  ⟨by rw [hb.block _ h.pos]; exact h.blk, h.toks.only (Only.of_below (p := pb) hb) h.ne, h.ne, h.lt, h.size, h.level, h.nums, h.space.below hb, h.gne, h.last⟩
theorem PS.alloc {pb tb c i lv : Nat} {T : List Tok} {w : World} (h : PS pb tb c T i lv w) (o : Obj) : PS pb tb c T i lv (w.alloc o) := h.below ((Below.refl _ _).alloc (Nat.le_refl _) o)
theorem PS.cells {pb tb c i lv : Nat} {T : List Tok} {w : World} (h : PS pb tb c T i lv w) :
    w.cell? ⟨pb, 0, none⟩ = some (.slice (some ⟨tb, 0, none⟩) T.length c) ∧ w.cell? ⟨pb, 1, none⟩ = some (.int .i64 i) ∧ w.cell? ⟨pb, 2, none⟩ = some (.int .i64 lv) := by
  refine ⟨?_, ?_, ?_⟩ <;> (rw [World.cell?, h.blk]; rfl)
theorem PS.frozen {pb tb c i lv : Nat} {T : List Tok} {w : World} (h : PS pb tb c T i lv w) (o : Nat) : w.frozen? ⟨pb, o, none⟩ = false := Lib.frozen_of_heap h.blk o
theorem PS.tok {pb tb c i lv : Nat} {T : List Tok} {w : World} (h : PS pb tb c T i lv w) :
    w.cell? ⟨tb, i * 3, none⟩ = some (.int .i64 (tk T i).kind) ∧ w.cell? ⟨tb, i * 3 + 1, none⟩ = some (.string ⟨(tk T i).text.toArray⟩) ∧ w.cell? ⟨tb, i * 3 + 2, none⟩ = some (.int .i64 (tk T i).pos) := by
  have := h.toks.2 i h.lt
  have e : tk T i = T[i]'h.lt := by unfold tk; rw [List.getD_eq_getElem?_getD, List.getElem?_eq_getElem h.lt]; rfl
  rw [e]; exact this
theorem PS.own {pb tb c i lv : Nat} {T : List Tok} {w : World} {B o : Nat} {v : Value} (h : PS pb tb c T i lv w) (h1' : pb < B) (h2' : tb < B) : PS pb tb c T i lv (w.setCell ⟨B, o, none⟩ v) := by
  have e : ∀ k, k ≠ B → (w.setCell ⟨B, o, none⟩ v).heap[k]? = w.heap[k]? := fun k hk => Below.heap_setCell _ _ _ _ hk
  have h1 : B ≠ pb := by omega
  have h2 : B ≠ tb := by omega
  refine ⟨by rw [e _ (Ne.symm h1)]; exact h.blk, ⟨by simpa [World.setCell] using h.toks.1, fun k hk => ?_⟩, h.ne, h.lt, h.size, h.level, h.nums, h.space.block (e _ (by have := h.gne; omega)), h.gne, h.last⟩
  have hc : ∀ q, (w.setCell ⟨B, o, none⟩ v).cell? ⟨tb, q, none⟩ = w.cell? ⟨tb, q, none⟩ := fun q => by simp only [World.cell?, e tb (Ne.symm h2)]
  rw [hc, hc, hc]; exact h.toks.2 k hk
theorem PS.setP {pb tb c i lv o : Nat} {T : List Tok} {w : World} {v : Value} {i' lv' : Nat} (h : PS pb tb c T i lv w)
    (hv : (#[Value.slice (some ⟨tb, 0, none⟩) T.length c, .int .i64 i, .int .i64 lv].setIfInBounds o v) = #[.slice (some ⟨tb, 0, none⟩) T.length c, .int .i64 i', .int .i64 lv']) (hi : i' < T.length) (hl : lv' ≤ 1000) : PS pb tb c T i' lv' (w.setCell ⟨pb, o, none⟩ v) := by
  have e : ∀ k, k ≠ pb → (w.setCell ⟨pb, o, none⟩ v).heap[k]? = w.heap[k]? := fun k hk => Below.heap_setCell _ _ _ _ hk
  refine ⟨?_, ⟨by simpa [World.setCell] using h.toks.1, fun k hk => ?_⟩, h.ne, hi, h.size, hl, h.nums, h.space.block (e _ (by have := h.gne; omega)), h.gne, h.last⟩
  · rw [← hv]
    simp [World.setCell, Array.getElem?_modify, h.blk]
  · have hc : ∀ q, (w.setCell ⟨pb, o, none⟩ v).cell? ⟨tb, q, none⟩ = w.cell? ⟨tb, q, none⟩ := fun q => by simp only [World.cell?, e tb h.ne]
    rw [hc, hc, hc]; exact h.toks.2 k hk
theorem PS.drew {pb tb c i lv : Nat} {T : List Tok} {w : World} (h : PS pb tb c T i lv w) (n : Nat) : PS pb tb c T i lv (w.drewN n) := h.below ((Below.refl _ _).trans ⟨rfl, rfl, rfl, Nat.le_refl _, fun _ _ => rfl⟩)
def FailChain (pos : Int) (e : Nat) : List PanicEntry := [{ v := .iface 91 (.agg #[.int .i64 pos, .int .i64 e]), recovered := false }]
theorem pfail_any (pb tb c i lv : Nat) (T : List Tok) (w : World) (e : Nat) (h : PS pb tb c T i lv w) :
    Calls Tryz.prog 65 #[.pointer (some ⟨pb, 0, none⟩), .int .i64 e] w fun r w' => r = .panicked (FailChain (tk T i).pos e) ∧ Only pb w w' := by
  obtain ⟨c0, c1, c2⟩ := h.cells
  obtain ⟨t0, t1, t2⟩ := h.tok
  have hlt := h.lt
  have hsz := h.size
  have hi0 : (0 : Int) ≤ (i : Int) := by omega
  have hi1 : (i : Int) < (T.length : Int) := by omega
  clear t0 t1
  generalize (tk T i).pos = ps at *
  replace h := Lib.hid h
  go_enter Tryz.func65, Tryz.ntmps65
  go_wp2_with fail
  go_region_dies
  all_goals exact ⟨rfl, rfl, Only.of_below ((Below.refl _ _).drew)⟩
def tokAgg (t : Tok) : Value := .agg #[.int .i64 t.kind, .string ⟨t.text.toArray⟩, .int .i64 t.pos]
theorem pnext_any (pb tb c i lv : Nat) (T : List Tok) (w : World) (h : PS pb tb c T i lv w) :
    Calls Tryz.prog 74 #[.pointer (some ⟨pb, 0, none⟩)] w fun r w' => r = .returned (tokAgg (tk T i)) ∧ (PS pb tb c T (nx T i) lv w' ∧ Only pb w w') := by
  obtain ⟨c0, c1, c2⟩ := h.cells
  obtain ⟨t0, t1, t2⟩ := h.tok
  have hlt := h.lt
  have hsz := h.size
  have hpos := h.pos
  have htb := h.toks.1
  have f1 := h.frozen 1
  have hi0 : (0 : Int) ≤ (i : Int) := by omega
  have hi1 : (i : Int) < (T.length : Int) := by omega
  generalize htk : tk T i = t at *
  obtain ⟨kd, tx, ps⟩ := t
  simp only at t0 t1 t2
  replace h := Lib.hid h
  by_cases hn : i + 1 < T.length
  · have hb : decide ((i : Int) < (T.length : Int) - 1) = true := by rw [decide_eq_true_eq]; omega
    go_enter Tryz.func74, Tryz.ntmps74
    go_wp2_with fail
    go_region
    go_wp2_with fail
    go_quiet (fail)
    go_wp2_with fail
    refine bodyPost_ret (v := .agg #[.int .i64 kd, .string ⟨tx.toArray⟩, .int .i64 ps]) (by simp [results, Tryz.results74, go_sem]) rfl ⟨rfl, ?_, ?_⟩
    · rw [show nx T i = i + 1 from if_pos hn]
      refine PS.own (PS.own (PS.own (PS.setP (((h.out.alloc _).alloc _).drew _) (i' := i + 1) (lv' := lv) (by simp) hn h.out.level) ?_ ?_) ?_ ?_) ?_ ?_ <;> omega
    · refine Only.own (Only.own (Only.own (Only.trans ((Only.alloc _ _ _).trans ((Only.alloc _ _ _).trans (Only.drew _ _ _))) (Only.set _ _ _ _)) (Nat.le_refl _) _) (Nat.le_refl _) _) (Nat.le_refl _) _
  · have hb : decide ((i : Int) < (T.length : Int) - 1) = false := by rw [decide_eq_false_iff_not]; omega
    go_enter Tryz.func74, Tryz.ntmps74
    go_wp2_with fail
    go_region
    go_wp2_with fail
    go_quiet (fail)
    go_wp2_with fail
    refine bodyPost_ret (v := .agg #[.int .i64 kd, .string ⟨tx.toArray⟩, .int .i64 ps]) (by simp [results, Tryz.results74, go_sem]) rfl ⟨rfl, ?_, ?_⟩
    · rw [show nx T i = i from if_neg hn]
      refine PS.own (PS.own (PS.own (((h.out.alloc _).alloc _).drew _) ?_ ?_) ?_ ?_) ?_ ?_ <;> omega
    · refine Only.own (Only.own (Only.own ((Only.alloc _ _ _).trans ((Only.alloc _ _ _).trans (Only.drew _ _ _))) (Nat.le_refl _) _) (Nat.le_refl _) _) (Nat.le_refl _) _
def WAt (w : World) (b : Nat) (ws : List (List UInt8)) : Prop := b < w.heap.size ∧ ∀ j (h : j < ws.length), w.cell? ⟨b, j, none⟩ = some (.string ⟨ws[j].toArray⟩)
theorem WAt.below {w w' : World} {b : Nat} {ws : List (List UInt8)} (h : WAt w b ws) (hb : Below w.heap.size w w') : WAt w' b ws :=
  ⟨by have := hb.size; have := h.1; omega, fun j hj => by rw [hb.cell h.1]; exact h.2 j hj⟩
theorem contains_words (ws : List (List UInt8)) (x : List UInt8) : Lib.containsS ((ws.map fun l => (⟨l.toArray⟩ : ByteArray)).take ws.length) ⟨x.toArray⟩ = ws.contains x := by
  rw [List.take_of_length_le (by simp), Bool.eq_iff_iff, Lib.containsS_iff, List.contains_iff_mem, List.mem_map]
  constructor
  · rintro ⟨l, hl, e⟩
    have : l = x := by simpa using e
    rw [← this]; exact hl
  · intro h; exact ⟨x, h, rfl⟩
theorem pis_any (pb tb c i lv : Nat) (T : List Tok) (w : World) (wb : Nat) (ws : List (List UInt8)) (h : PS pb tb c T i lv w) (hw : WAt w wb ws) (hl : ws.length ≤ 100) :
    Calls Tryz.prog 73 #[.pointer (some ⟨pb, 0, none⟩), .slice (some ⟨wb, 0, none⟩) ws.length ws.length] w fun r w' => r = .returned (.bool (isW T ws i)) ∧ (PS pb tb c T i lv w' ∧ Only pb w w') := by
  obtain ⟨c0, c1, c2⟩ := h.cells
  obtain ⟨t0, t1, t2⟩ := h.tok
  have hlt := h.lt
  have hsz := h.size
  have hpos := h.pos
  have htb := h.toks.1
  have hi0 : (0 : Int) ≤ (i : Int) := by omega
  have hi1 : (i : Int) < (T.length : Int) := by omega
  have hr : isW T ws i = ((decide ((tk T i).kind = 2) || decide ((tk T i).kind = 0)) && ws.contains (tk T i).text) := rfl
  generalize tk T i = t at *
  obtain ⟨kd, tx, ps⟩ := t
  simp only at t0 t1 t2 hr
  have hC : ∀ W, WAt W wb ws → Calls Tryz.prog 128 #[.slice (some ⟨wb, 0, none⟩) ws.length ws.length, .string ⟨tx.toArray⟩] W fun e w' => e = .returned (.bool (ws.contains tx)) ∧ w' = W := by
    intro W hW
    have := Tryz.slices_Contains_string wb 0 ws.length ws.length (ws.map fun l => (⟨l.toArray⟩ : ByteArray)) ⟨tx.toArray⟩ W (by simp) (by omega) (fun j hj => by
      have hj' : j < ws.length := by simpa using hj
      rw [Nat.zero_add, hW.2 j hj']
      simp [List.getD, hj'])
    rw [contains_words] at this
    exact this
  replace h := Lib.hid h
  replace hw := Lib.hid hw
  generalize ws.contains tx = cb at *
  replace hC := Lib.hid hC
  have hfin : PS pb tb c T i lv ((w.alloc (.cells #[.int .i64 kd, .string ⟨tx.toArray⟩, .int .i64 ps] 45)).drew) := (h.out.alloc _).drew 1
  have hfo : Only pb w ((w.alloc (.cells #[.int .i64 kd, .string ⟨tx.toArray⟩, .int .i64 ps] 45)).drew) := (Only.alloc _ _ _).trans (Only.drew _ 1 _)
  have hfw : WAt ((w.alloc (.cells #[.int .i64 kd, .string ⟨tx.toArray⟩, .int .i64 ps] 45)).drew) wb ws := hw.out.below (((Below.refl _ _).alloc (Nat.le_refl _) _).trans ((Below.refl _ _).drew))
  replace hfin := Lib.hid hfin
  replace hfo := Lib.hid hfo
  replace hfw := Lib.hid hfw
  by_cases h2 : kd = 2
  · have b2 : (kd == 2) = true := by rw [beq_iff_eq]; exact h2
    rw [decide_eq_true h2, Bool.true_or, Bool.true_and] at hr
    replace hr := Lib.hid hr
    replace h2 := Lib.hid h2
    go_enter Tryz.func73, Tryz.ntmps73
    go_wp2_with fail
    go_region
    go_wp2_with fail
    (with_reducible refine (hC.out _ hfw.out).mono ?_); rintro e w1 ⟨rfl, rfl⟩
    go_wp2_with fail
    go_ret
    exact ⟨ret_b hr.out.symm, hfin.out, hfo.out⟩
  · have b2 : (kd == 2) = false := by rw [beq_eq_false_iff_ne]; exact h2
    rw [decide_eq_false h2, Bool.false_or] at hr
    replace h2 := Lib.hid h2
    by_cases h0 : kd = 0
    · have b0 : (kd == 0) = true := by rw [beq_iff_eq]; exact h0
      rw [decide_eq_true h0, Bool.true_and] at hr
      replace hr := Lib.hid hr
      replace h0 := Lib.hid h0
      go_enter Tryz.func73, Tryz.ntmps73
      go_wp2_with fail
      go_region
      go_wp2_with fail
      (with_reducible refine (hC.out _ hfw.out).mono ?_); rintro e w1 ⟨rfl, rfl⟩
      go_wp2_with fail
      go_ret
      exact ⟨ret_b hr.out.symm, hfin.out, hfo.out⟩
    · have b0 : (kd == 0) = false := by rw [beq_eq_false_iff_ne]; exact h0
      rw [decide_eq_false h0, Bool.false_and] at hr
      replace hr := Lib.hid hr
      replace h0 := Lib.hid h0
      go_enter Tryz.func73, Tryz.ntmps73
      go_wp2_with fail
      go_region
      go_wp2_with fail
      go_ret
      exact ⟨ret_b hr.out.symm, hfin.out, hfo.out⟩
end Go.Proofs.YtplbfmcgddnkeaaGreatDoor
end
section
namespace Go.Proofs.YtplbfmcgddnkeaaGreatDoor
theorem parse_dv (l : List UInt8) (hd : ∀ c ∈ l, isDigit c.toNat = true) : ∀ acc, dv acc l ≤ 1048576 → Lib.parseUint10 acc l = .ok (dv acc l) := by
  induction l with
  | nil => intro acc _; rfl
  | cons c r ih =>
    intro acc h
    have hc := hd c (by simp)
    simp only [isDigit, Bool.and_eq_true, decide_eq_true_eq] at hc
    rw [dv_cons] at h
    have h1 := dv_ge r (10 * acc + (c.toNat - 48))
    have h2 : 0 < 10 ^ r.length := Nat.pow_pos (by omega)
    have h3 : 10 * acc + (c.toNat - 48) ≤ (10 * acc + (c.toNat - 48)) * 10 ^ r.length := Nat.le_mul_of_pos_right _ h2
    rw [Lib.parseUint10, if_pos (by omega), if_neg (by omega), if_neg (by omega), Nat.mul_comm acc 10, ih (fun c h => hd c (by simp [h])) _ h, dv_cons]
theorem atoiAll_dv {l : List UInt8} (h0 : l ≠ []) (hd : ∀ c ∈ l, isDigit c.toNat = true) (h : dv 0 l ≤ 1048576) : Lib.atoiAll l = .ok ((dv 0 l : Nat) : Int) := by
  match l, h0 with
  | c :: r, _ =>
    have hc := hd c (by simp)
    simp only [isDigit, Bool.and_eq_true, decide_eq_true_eq] at hc
    have hp : Lib.parseMag (c :: r) = .ok (dv 0 (c :: r)) := by
      unfold Lib.parseMag
      rw [if_neg (by simp)]
      exact parse_dv _ hd 0 h
    have h43 : ¬ (c.toNat = 43 ∨ c.toNat = 45) := by omega
    have h45 : ¬ c.toNat = 45 := by omega
    simp only [Lib.atoiAll, if_neg h43, hp]
    rw [if_neg (by omega), if_neg (by omega), if_neg h45]
end Go.Proofs.YtplbfmcgddnkeaaGreatDoor
end
