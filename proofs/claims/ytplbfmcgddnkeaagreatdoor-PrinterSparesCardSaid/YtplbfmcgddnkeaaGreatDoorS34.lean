/- Joined: Spw, RpR, LaidP, LaidQ. -/
import Derived.Test.YtplbfmcgddnkeaaGreatDoorRows
import Derived.ProofKit
import Derived.LaidMore
import Derived.LaidSub
import Derived.OpenShut
import Derived.Test.YtplbfmcgddnkeaaGreatDoorS04
import Derived.Test.YtplbfmcgddnkeaaGreatDoorS03
import Derived.Test.YtplbfmcgddnkeaaGreatDoorS21
import Derived.Test.YtplbfmcgddnkeaaGreatDoorS30
import Derived.Test.YtplbfmcgddnkeaaGreatDoorS05
import Derived.Test.YtplbfmcgddnkeaaGreatDoorS08
set_option linter.unusedVariables false
set_option linter.unusedSimpArgs false
section
set_option maxHeartbeats 4000000
set_option maxRecDepth 100000
namespace Go.Proofs.YtplbfmcgddnkeaaGreatDoor
open Go.RowKit
theorem owns_keep {w w' : World} {B e size n : Nat} {v : Value} {xs : List Value} {row : Option Nat} (h : w.ownsRow B e size v n xs) (hg : w.grownBy w' row) (hne : ∀ k, v.ownBlock = some k → row ≠ some k) : w'.ownsRow B e size v n xs := by
  refine h.kept hg ?_
  cases hv : v.ownBlock with
  | none => exact .inl rfl
  | some k => exact .inr fun e => hne k hv e.symm
theorem owns_apart {w : World} {B e e' size size' n n' : Nat} {v v' : Value} {xs xs' : List Value} (h : w.ownsRow B e size v n xs) (h' : w.ownsRow B e' size' v' n' xs') (hne : e ≠ e') : ∀ k, v.ownBlock = some k → v'.ownBlock ≠ some k := by
  intro k hk hk'
  rcases h.2 with ⟨rfl, -⟩ | ⟨g, cap, cur, rfl, -, hg, -⟩
  · cases hk
  rcases h'.2 with ⟨rfl, -⟩ | ⟨g', cap', cur', rfl, -, hg', -⟩
  · cases hk'
  injection hk with hk
  injection hk' with hk'
  have hk : g = k := hk
  have hk' : g' = k := hk'
  subst hk hk'
  rw [hg] at hg'
  injection hg' with e1
  injection e1 with e1 e2
  exact hne e2
theorem owns_blk {w : World} {B e e' size n X : Nat} {v : Value} {xs : List Value} {cs : Array Value} {fr : Nat × Nat} (h : w.ownsRow B e size v n xs) (hX : w.heap[X]? = some (.cells cs e' fr)) (hne : e ≠ e') : v.ownBlock ≠ some X := by
  intro hk
  rcases h.2 with ⟨rfl, -⟩ | ⟨g, cap, cur, rfl, -, hg, -⟩
  · cases hk
  injection hk with hk
  have hk : g = X := hk
  subst hk
  rw [hg] at hX
  injection hX with e1
  injection e1 with e1 e2
  exact hne e2
theorem grown_blk {w w' : World} {X : Nat} {row : Option Nat} {o : Obj} (hg : w.grownBy w' row) (hX : w.heap[X]? = some o) (hne : row ≠ some X) : w'.heap[X]? = some o :=
  (hg.block X (Array.getElem?_eq_some_iff.1 hX).1 (fun e => hne e.symm)).trans hX
theorem alloc_blk {w : World} {X : Nat} {o : Obj} (hX : w.heap[X]? = some o) (o' : Obj) : (w.alloc o').heap[X]? = some o :=
  (Lib.alloc_old w o' X (Array.getElem?_eq_some_iff.1 hX).1).trans hX
theorem owns_cap {w : World} {B e size n m cap : Nat} {p : Option Addr} {xs : List Value} (h : w.ownsRow B e size (.slice p m cap) n xs) : m ≤ cap := by
  rcases h.2 with ⟨h1, -⟩ | ⟨g, cap', cur, h1, -, -, h2, -⟩
  · injection h1 with h1 h2 h3; omega
  · injection h1 with h1 h3 h4; omega
theorem owns_take {w : World} {B e n : Nat} {g cap : Nat} {xs : List Value} (h : w.ownsRow B e 1 (.slice (some ⟨g, 0, none⟩) n cap) n xs) {m : Nat} (hm : m ≤ n) : w.ownsRow B e 1 (.slice (some ⟨g, 0, none⟩) m cap) m (xs.take m) := by
  obtain ⟨h1, h2⟩ := h
  rcases h2 with ⟨h2, -⟩ | ⟨g', cap', cur, h2, hb, hg, hn, hc, hs, ht⟩
  · cases h2
  injection h2 with h3 h4 h5
  injection h3 with h3
  injection h3 with h3
  subst h3 h5
  refine ⟨by rw [List.length_take]; omega, .inr ⟨g, cap, cur, rfl, hb, hg, by omega, hc, hs, ?_⟩⟩
  rw [← ht, List.take_take, Nat.mul_one, Nat.mul_one, Nat.min_eq_left hm]
theorem owns_form {w : World} {B e size n : Nat} {v : Value} {xs : List Value} (h : w.ownsRow B e size v n xs) (hn : 0 < n) : ∃ g cap, v = .slice (some ⟨g, 0, none⟩) n cap := by
  rcases h.2 with ⟨-, h0⟩ | ⟨g, cap, cur, rfl, -⟩
  · omega
  · exact ⟨g, cap, rfl⟩
theorem owns_len {w : World} {B e size n : Nat} {v : Value} {xs : List Value} (h : w.ownsRow B e size v n xs) : ∃ p c, v = .slice p n c := by
  rcases h.2 with ⟨rfl, h0⟩ | ⟨g, cap, cur, rfl, -⟩
  · exact ⟨none, 0, by rw [h0]⟩
  · exact ⟨_, cap, rfl⟩
theorem owns_cell {w : World} {B e size n g cap : Nat} {xs : List Value} (h : w.ownsRow B e size (.slice (some ⟨g, 0, none⟩) n cap) n xs) (k : Nat) (u : Value) (hu : xs[k]? = some u) : w.cell? ⟨g, k, none⟩ = some u := by
  have := h.cells (g := g) rfl k u hu
  rwa [show (⟨g, 0, none⟩ : Addr).add k = ⟨g, k, none⟩ by unfold Addr.add; by_cases e : k = 0 <;> simp [e]] at this
theorem below_grown {w w' : World} {B : Nat} {row : Option Nat} (hg : w.grownBy w' row) (hb : ∀ k, row = some k → B ≤ k) (hB : B ≤ w.heap.size) : Below B w w' :=
  ⟨hg.os, hg.tape, hg.output, hg.size, fun k hk => hg.block k (by omega) (fun e => by have := hb k e.symm; omega)⟩
theorem below_undrew {w w' : World} {n : Nat} (h : Below (w.drewN n).heap.size (w.drewN n) w') : Below w.heap.size w w' := (below_drawn (Below.refl _ _) n).trans h
theorem calls_any (k : Int) (tx : List UInt8) (p : Int) (w : World) : Calls Tryz.prog 24 #[.agg #[.int .i64 k, .string ⟨tx.toArray⟩, .int .i64 p]] w fun e w' => (∃ b, e = .returned (.bool b)) ∧ Below w.heap.size w w' := by
  have hB : Below w.heap.size w (w.alloc (.cells #[.int .i64 k, .string ⟨tx.toArray⟩, .int .i64 p] 45)) := (Below.refl _ _).alloc (Nat.le_refl _) _
  have hC := heap_alloc_new w (.cells #[.int .i64 k, .string ⟨tx.toArray⟩, .int .i64 p] 45)
  go_enter Tryz.func24, Tryz.ntmps24
  go_upto_region 1 with (fail)
  generalize World.alloc w _ = w1 at hB hC ⊢
  have c0 : w1.cell? ⟨w.heap.size, 0, none⟩ = some (.int .i64 k) := by rw [World.cell?, hC]; rfl
  have c1 : w1.cell? ⟨w.heap.size, 1, none⟩ = some (.string ⟨tx.toArray⟩) := by rw [World.cell?, hC]; rfl
  replace hB := Lib.hid hB
  clear hC
  by_cases hk : k = 0
  case neg =>
    have hkb : (k != 0) = true := by rw [bne_iff_ne]; exact hk
    go_wp2_with fail
    all_goals
      go_ret
      exact ⟨⟨_, rfl⟩, hB.out⟩
  subst hk
  go_upto_region 4 with (fail)
  clear c0 c1
  go_wp2_with fail
  all_goals
    go_ret
    exact ⟨⟨_, rfl⟩, hB.out⟩
def AppPair (o : Oper) (a : Act) (w : World) (K : Act → World → Prop) (Q : Exit → Act → World → Prop) : Prop := Oper.wp Tryz.prog o a w K Q
theorem pair_open (dst : Option Tmp) (s x : Operand) (ty : TypeId) (pos : String) (after : Array Edge) (guard : Option (Nat × Bool)) (a : Act) (w : World) (K : Act → World → Prop) (Q : Exit → Act → World → Prop) :
    Oper.wp Tryz.prog ⟨dst, .call { callee := .builtin .append, args := #[s, x], argTypes := #[42, 42] }, ty, pos, after, guard⟩ a w K Q = AppPair ⟨dst, .call { callee := .builtin .append, args := #[s, x], argTypes := #[42, 42] }, ty, pos, after, guard⟩ a w K Q := rfl
theorem owns_heap {w w' : World} {B e size n : Nat} {v : Value} {xs : List Value} (h : w.ownsRow B e size v n xs) (hh : w'.heap = w.heap) : w'.ownsRow B e size v n xs := by
  unfold World.ownsRow at h ⊢; rw [hh]; exact h
theorem pair_info : (Tryz.prog.info? 47).map (fun i => (i.zero, i.size, i.bytes)) = some (some (.agg #[.int .i64 0, .int .i64 0]), 2, 16) := by kernel_rfl
theorem step_pair {o : Oper} {a : Act} {W : World} {K : Act → World → Prop} {Q : Exit → Act → World → Prop} {sl x : Operand} {B n n0 c : Nat} {v : Value} {xs : List Value} {x1 x2 : Int} {fr : Nat × Nat}
    (hown : W.ownsRow B 47 2 v n xs) (hb : W.heap[n0]? = some (.cells #[.int .i64 x1, .int .i64 x2] 47 fr)) (hn : n ≤ 1000000) (hB : B ≤ W.heap.size)
    (ho : o.op = .call { callee := .builtin .append, args := #[sl, x], argTypes := #[42, 42] }) (hs : a.eval sl = v) (hx : a.eval x = .slice (some ⟨n0, 0, none⟩) 1 c)
    (hgo : ∀ v' w', w'.ownsRow B 47 2 v' (n + 1) (xs ++ [.int .i64 x1, .int .i64 x2]) → W.grownBy w' v.ownBlock → K (a.put o.dst v') w') : AppPair o a W K Q := by
  obtain ⟨i2, hi, h0, h1, h2⟩ := info_parts pair_info
  refine wp_append_own W sl x 42 ho B 47 i2 _ 2 16 Tryz.underlying42 hi h0 h1 h2 rfl (by decide) v n xs hs hown ⟨n0, 0, none⟩ 1 c [.int .i64 x1, .int .i64 x2] hx rfl ?_ ?_ ?_ ?_ hB ?_
  · intro j u hu
    have : (⟨n0, 0, none⟩ : Addr).add j = ⟨n0, j, none⟩ := by unfold Addr.add; split <;> simp_all
    rw [this, World.cell?, hb]
    simpa using hu
  · intro u hu
    simp only [List.mem_cons, List.not_mem_nil, or_false] at hu
    rcases hu with rfl | rfl <;> rfl
  · unfold maxLen; omega
  · omega
  · intro v' w' h3 h4 _
    exact hgo v' w' h3 h4
end Go.Proofs.YtplbfmcgddnkeaaGreatDoor
end
section
set_option maxHeartbeats 1000000
set_option maxRecDepth 100000
namespace Go.Proofs.YtplbfmcgddnkeaaGreatDoor
open Go.RowKit
theorem rread_err (s : List UInt8) (K : Int) (d x : Nat) (w : World) (hs : s.length ≤ 1000000) (hx : x ≠ 0) (hT : scan s = .error (d, x)) :
    Calls Tryz.prog 25 #[.string ⟨s.toArray⟩, .int .i64 K] w (PRes w (.err d x)) := by
  have hB1 : Below w.heap.size w (w.alloc (.cells z5.toArray 24)) := (Below.refl _ _).alloc (Nat.le_refl _) _
  have hsc := refScan_any s (w.alloc (.cells z5.toArray 24)) hs
  rw [hT] at hsc
  have hbe : ((x : Int) != 0) = true := by rw [bne_iff_ne]; omega
  replace hsc := Lib.hid hsc
  clear hT
  go_enter Tryz.func25, Tryz.ntmps25
  go_wp2_with fail
  (with_reducible refine (hsc.out).mono ?_); rintro e w2 ⟨b2, h2⟩
  subst h2
  have hz1 : (w.alloc (.cells z5.toArray 24)).heap.size = w.heap.size + 1 := by simp only [World.size_alloc]
  rw [hz1] at b2
  have hR2 : w2.heap[w.heap.size]? = some (.cells z5.toArray 24 (0, 0)) := (b2.block _ (by omega)).trans (heap_alloc_new _ _)
  have hB2 : Below w.heap.size w w2 := hB1.trans (b2.mono (by omega))
  have hsb : SynBlk w2 w.heap.size := ⟨_, _, _, _, _, _, hR2⟩
  have hh := setSyn_held w2 w.heap.size (.int .i64 0) (.string ⟨#[]⟩) (.int .i64 0) (.int .i64 0) (.slice none 0 0) _ _ _ _ _ _ hR2
  obtain ⟨⟨q0, q1, q2, q3, q4⟩, _⟩ := own5 hh
  have hfin : PRes w (.err d x) (.returned (.tuple #[.agg #[.int .i64 0, .string ⟨#[]⟩, .int .i64 0, .int .i64 0, .slice none 0 0], .int .i64 d, .int .i64 (x : Nat)])) (setSyn w2 w.heap.size (.int .i64 0) (.string ⟨#[]⟩) (.int .i64 0) (.int .i64 0) (.slice none 0 0)) :=
    ⟨setSyn_below hB2 _ _ _ _ _, rfl⟩
  replace hfin := Lib.hid hfin
  clear hh hR2 hB2 b2 hz1 hsc
  go_wp2_with fail
  exact bodyPost_ret (v := .tuple #[.agg #[.int .i64 0, .string ⟨#[]⟩, .int .i64 0, .int .i64 0, .slice none 0 0], .int .i64 d, .int .i64 (x : Nat)]) (by simp [results, Tryz.results25, go_sem, q0, q1, q2, q3, q4]) rfl hfin.out
end Go.Proofs.YtplbfmcgddnkeaaGreatDoor
end
section
namespace Go.Proofs.YtplbfmcgddnkeaaGreatDoor
open Go.RowKit
theorem cells_of_texts {H : Type} {enc : TypeId × Value → H} {P : Program} {w : World} {base : Nat} {sp : Nat → Bool} {held : Bool} {fuel : Nat} {t e : TypeId} {n : Nat} {cs : List Value} {zs : List (List UInt8)} {p : List MemPlace}
    (ht : P.underlying t = some (.array n e)) (he : P.underlying e = some .string) (hce : P.cellsOf e = 1) (hct : P.cellsOf t = n)
    (h : DataW.trod enc P w base sp held fuel t cs = some (.agg (zs.map fun z => .lit (.string z)), p)) : cs = zs.map fun z => Value.string ⟨z.toArray⟩ := by
  cases fuel with
  | zero => simp [DataW.trod] at h
  | succ fuel =>
    simp only [DataW.trod, ht, hce, hct, Nat.mul_one] at h
    split at h
    · rename_i hl
      obtain ⟨xs, hm, hx⟩ := Option.map_eq_some_iff.1 h
      have hxs : xs.map (·.1) = zs.map fun z => (DataW.lit (.string z) : DataW H) := by
        have := congrArg Prod.fst hx
        simpa using this
      have hxl : xs.length = n := by simpa using Lib.mapM_length hm
      have hzl : zs.length = n := by
        have := congrArg List.length hxs
        simp at this
        omega
      apply List.ext_getElem?
      intro i
      by_cases hi : i < n
      · obtain ⟨b, hb, hf⟩ := Lib.mapM_at hm i i (by simp [hi])
        obtain ⟨z, hc, rfl, _⟩ := DataW.trod_string he hf
        have h1 : cs[i]? = some (.string z) := by
          have := congrArg (·[0]?) hc
          simpa [List.getElem?_take, List.getElem?_drop] using this
        have h2 : (xs.map (·.1))[i]? = some (DataW.lit (.string z.data.toList) : DataW H) := by simp [hb]
        rw [hxs] at h2
        simp only [List.getElem?_map, Option.map_eq_some_iff, DataW.lit.injEq, Lit.string.injEq] at h2
        obtain ⟨z', hz', e2⟩ := h2
        simp [h1, hz', e2]
      · rw [List.getElem?_eq_none (by omega), List.getElem?_eq_none (by simp; omega)]
    · cases h
theorem signs_of_laid {W : World} {l : List (String × DataW Unit)} (h : laidMet Tryz.prog l W) (hl : l.filter (fun x => x.1 == "roundtable/lexer.signs") = [("roundtable/lexer.signs", .agg (signTexts.map fun z => .lit (.string z)))]) : SignsAt W := by
  have h1 := h.filter (fun x => x.1 == "roundtable/lexer.signs")
  rw [hl] at h1
  obtain ⟨ps, ⟨g', t', cs, fuel, p, q, hg', ht', hvar, hd, _, _⟩, _⟩ := h1
  obtain rfl := Option.some.inj ((show Tryz.prog.globalNamed "roundtable/lexer.signs" = some 0 by kernel_rfl).symm.trans hg')
  obtain rfl := Option.some.inj ((show (Tryz.prog.globals[0]?).map (·.type) = some 102 by kernel_rfl).symm.trans ht')
  have hc := cells_of_texts Tryz.underlying102 Tryz.underlying9 (by kernel_rfl) (by kernel_rfl) hd
  unfold World.var? at hvar
  rw [hg'] at hvar
  simp only [Option.bind_some] at hvar
  have hcs : cs = signVals := by
    apply Array.toList_inj.1
    rw [hc]; rfl
  split at hvar
  · rename_i c t fr hh
    simp only [Option.some.injEq] at hvar
    exact ⟨t, fr, by rw [hh, hvar, hcs]⟩
  · cases hvar
theorem space_of_laid {W : World} {l : List (String × DataW Unit)} (h : laidMet Tryz.prog l W) (hl : l.filter (fun x => x.1 == "strings.asciiSpace") = [("strings.asciiSpace", Lib.tabData .u8 Lib.asciiSpaceTab)]) : SpaceAt W := by
  have h1 := h.filter (fun x => x.1 == "strings.asciiSpace")
  rw [hl] at h1
  exact Lib.tabIs_of_head (g := 4) (t := 184) (e := 5) (n := 256) (by kernel_rfl) (by kernel_rfl) Tryz.underlying184 Tryz.underlying5 (by kernel_rfl) (by kernel_rfl) h1
end Go.Proofs.YtplbfmcgddnkeaaGreatDoor
end
section
namespace Go.Proofs.YtplbfmcgddnkeaaGreatDoor
open Go.RowKit
theorem tab_of_laid {W : World} {l : List (String × DataW Unit)} (h : laidMet Tryz.prog l W) (hl : l.filter (fun x => x.1 == "internal/strconv.uint64pow10") = [("internal/strconv.uint64pow10", Lib.tabData .u64 Lib.pow10Tab)]) : TabW W := by
  have h1 := h.filter (fun x => x.1 == "internal/strconv.uint64pow10")
  rw [hl] at h1
  exact Lib.tabIs_of_head (g := 1) (t := 172) (e := 153) (n := 20) (by kernel_rfl) (by kernel_rfl) Tryz.underlying172 Tryz.underlying153 (by kernel_rfl) (by kernel_rfl) h1
end Go.Proofs.YtplbfmcgddnkeaaGreatDoor
end
