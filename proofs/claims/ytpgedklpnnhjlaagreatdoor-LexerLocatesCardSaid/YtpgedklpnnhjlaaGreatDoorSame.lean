/- Walks: Same of the reference; slices of tokens that are read. -/
import Derived.Test.YtpgedklpnnhjlaaGreatDoorLexE
set_option maxHeartbeats 1000000
set_option maxRecDepth 100000
namespace Go.Proofs.YtpgedklpnnhjlaaGreatDoor
open Go.RowKit
/-- A slice value that reads as tokens. -/
def TokSl (w : World) (v : Value) (ts : List Tok) : Prop :=
  (ts = [] ∧ ∃ a c, v = .slice a 0 c) ∨
  ∃ b o c, v = .slice (some ⟨b, o, none⟩) ts.length c ∧ b < w.heap.size ∧ ∀ k (h : k < ts.length), w.cell? ⟨b, o + k * 3, none⟩ = some (.int .i64 ts[k].kind) ∧ w.cell? ⟨b, o + k * 3 + 1, none⟩ = some (.string ⟨ts[k].text.toArray⟩) ∧ w.cell? ⟨b, o + k * 3 + 2, none⟩ = some (.int .i64 ts[k].pos)
theorem tokCells_at (ts : List Tok) : ∀ k (h : k < ts.length), (tokCells ts)[k * 3]? = some (.int .i64 ts[k].kind) ∧ (tokCells ts)[k * 3 + 1]? = some (.string ⟨ts[k].text.toArray⟩) ∧ (tokCells ts)[k * 3 + 2]? = some (.int .i64 ts[k].pos) := by
  induction ts with
  | nil => intro k h; simp at h
  | cons t r ih =>
    intro k h
    cases k with
    | zero => simp [tokCells]
    | succ k =>
      have := ih k (by simpa using h)
      have e : (k + 1) * 3 = k * 3 + 3 := by omega
      rw [e]
      simpa [tokCells] using this
theorem TokSl.of_owns {w : World} {B : Nat} {v : Value} {ts : List Tok} (h : w.ownsRow B 32 3 v ts.length (tokCells ts)) : TokSl w v ts := by
  rcases h.2 with ⟨rfl, h0⟩ | ⟨g, cap, cur, rfl, hB, hg, r⟩
  · exact .inl ⟨List.eq_nil_of_length_eq_zero h0, none, 0, rfl⟩
  · refine .inr ⟨g, 0, cap, rfl, (Array.getElem?_eq_some_iff.1 hg).1, fun k hk => ?_⟩
    have hc := fun j u => h.cells (g := g) (by simp [Value.ownBlock]) j u
    have ha : ∀ j, (⟨g, 0, none⟩ : Addr).add j = ⟨g, j, none⟩ := fun j => by unfold Addr.add; split <;> simp_all
    simp only [ha] at hc
    have := tokCells_at ts k hk
    simp only [Nat.zero_add]
    exact ⟨hc _ _ this.1, hc _ _ this.2.1, hc _ _ this.2.2⟩
theorem TokSl.below {w w' : World} {v : Value} {ts : List Tok} (h : TokSl w v ts) (hb : Below w.heap.size w w') : TokSl w' v ts := by
  rcases h with h | ⟨b, o, c, rfl, hlt, hc⟩
  · exact .inl h
  · refine .inr ⟨b, o, c, rfl, by have := hb.size; omega, fun k hk => ?_⟩
    have := hc k hk
    rw [hb.cell hlt, hb.cell hlt, hb.cell hlt]
    exact this
theorem TokSl.len {w : World} {v : Value} {ts : List Tok} (h : TokSl w v ts) : ∃ a c, v = .slice a ts.length c := by
  rcases h with ⟨rfl, a, c, rfl⟩ | ⟨b, o, c, rfl, _⟩
  · exact ⟨a, c, rfl⟩
  · exact ⟨_, c, rfl⟩
theorem tok_neq_run (w : World) (x y : Tok) :
    (binOp .neq 32 (.agg #[.int .i64 x.kind, .string ⟨x.text.toArray⟩, .int .i64 x.pos]) (.agg #[.int .i64 y.kind, .string ⟨y.text.toArray⟩, .int .i64 y.pos])).run Tryz.prog w =
      .ok (.bool (!decide (x = y))) w := by
  rw [run_neq_struct, run_equalIn_struct w _ _ _ _ (by kernel_rfl) (by kernel_rfl)]
  obtain ⟨a, s, c⟩ := x
  obtain ⟨a', s', c'⟩ := y
  simp only [Tok.mk.injEq]
  by_cases h1 : a = a'
  · by_cases h2 : s = s'
    · by_cases h3 : c = c'
      · simp [Program.fieldsOf, Tryz.underlying32, Op.eqFields, go_sem, h1, h2, h3]
      · have := h3
        simp [Program.fieldsOf, Tryz.underlying32, Op.eqFields, go_sem, h1, h2, h3]
    · simp [Program.fieldsOf, Tryz.underlying32, Op.eqFields, go_sem, h1, h2]
  · have := h1
    simp [Program.fieldsOf, Tryz.underlying32, Op.eqFields, go_sem, h1]
theorem same_any (w : World) (v u : Value) (ts us : List Tok) (hv : TokSl w v ts) (hu : TokSl w u us) (hl : ts.length ≤ 1000000000) (hl2 : us.length ≤ 1000000000) :
    Calls Tryz.prog 12 #[v, u] w fun e w' => e = .returned (.bool (decide (ts = us))) ∧ ∃ n, w' = w.drewN n := by
  by_cases hlen : ts.length = us.length
  · rcases hv with ⟨rfl, a, c, rfl⟩ | ⟨b, o, c, rfl, hlt, hc⟩
    · have : us = [] := List.eq_nil_of_length_eq_zero (by simpa using hlen.symm)
      subst this
      obtain ⟨a', c', rfl⟩ := hu.len
      clear hu
      go_enter Tryz.func12, Tryz.ntmps12
      go_wp2_with fail
      go_rounds 1
      go_ret
      exact ⟨rfl, 0, rfl⟩
    · rcases hu with ⟨rfl, a, c', rfl⟩ | ⟨b', o', c', rfl, hlt', hc'⟩
      · have : ts = [] := List.eq_nil_of_length_eq_zero (by simpa using hlen)
        subst this
        clear hc
        go_enter Tryz.func12, Tryz.ntmps12
        go_wp2_with fail
        go_rounds 1
        go_ret
        exact ⟨rfl, 0, rfl⟩
      · have HC := Lib.hid hc
        have HC' := Lib.hid hc'
        clear hc hc'
        have hb0 : ((ts.length : Int) != us.length) = false := by rw [hlen]; simp
        go_enter Tryz.func12, Tryz.ntmps12
        go_wp2_with fail
        go_loopw [5] (fun i wr => (∃ k : Nat, k ≤ ts.length ∧ i = .int .i64 k ∧ Hid (ts.take k = us.take k)) ∧ ∃ n, wr = w.drewN n) (fun i _ => ts.length - (intOf i).toNat)
        case atStart => exact ⟨⟨0, by omega, rfl, show _ = _ from rfl⟩, 0, rfl⟩
        case round =>
          obtain ⟨⟨k, hk, rfl, hall⟩, n, rfl⟩ := hrel
          by_cases hlt1 : k < ts.length
          · have hlt2 : k < us.length := by omega
            obtain ⟨c0, c1, c2⟩ := HC.out k hlt1
            obtain ⟨d0, d1, d2⟩ := HC'.out k hlt2
            have hlen' := Lib.hid hlen
            clear hlen
            generalize hx : ts[k] = x at *
            generalize hy : us[k] = y at *
            replace hx := Lib.hid hx
            replace hy := Lib.hid hy
            have g32 : Tryz.prog.eqGuardType Tryz.prog.depth 32 = false := by kernel_rfl
            have hrun := fun W => tok_neq_run W x y
            have htk : Hid (ts.take (k + 1) = us.take (k + 1) ↔ ts.take k = us.take k ∧ x = y) := by
              show _ ↔ _
              rw [List.take_succ_eq_append_getElem hlt1, List.take_succ_eq_append_getElem hlt2, hx.out, hy.out]
              constructor
              · intro h
                have := List.append_inj' h rfl
                exact ⟨this.1, by simpa using this.2⟩
              · rintro ⟨h1, h2⟩; rw [h1, h2]
            by_cases hxy : x = y
            · have hd : decide (x = y) = true := by simp [hxy]
              rw [hd] at hrun
              replace hxy := Lib.hid hxy
              clear hd
              go_wp2_with fail
              go_quiet (fail)
              go_wp2_with fail
              go_roundw
              case rel => exact ⟨⟨k + 1, by omega, by go_num, htk.out.2 ⟨hall.out, hxy.out⟩⟩, n + nq, by first | rfl | rw [World.drewN_drewN]⟩
              case measure => simp [intOf]; omega
            · have hd : decide (x = y) = false := by simp [hxy]
              rw [hd] at hrun
              replace hxy := Lib.hid hxy
              clear hd
              go_wp2_with fail
              go_quiet (fail)
              go_wp2_with fail
              go_ret
              refine ⟨ret_b ?_, n + nq, by first | rfl | rw [World.drewN_drewN]⟩
              symm
              rw [decide_eq_false_iff_not]
              intro e
              exact hxy.out (htk.out.1 (by rw [e])).2
          · go_wp2_with fail
            go_ret
            refine ⟨ret_b ?_, n, rfl⟩
            have h1 := hall.out
            rw [List.take_of_length_le (by omega), List.take_of_length_le (by omega)] at h1
            simp [h1]
  · have hb0 : ((ts.length : Int) != us.length) = true := by rw [bne_iff_ne]; omega
    obtain ⟨a, c, rfl⟩ := hv.len
    obtain ⟨a', c', rfl⟩ := hu.len
    have hne : ¬ ts = us := fun e => hlen (by rw [e])
    replace hne := Lib.hid hne
    clear hv hu hlen
    go_enter Tryz.func12, Tryz.ntmps12
    go_wp2_with fail
    go_ret
    exact ⟨ret_b (by simp [hne.out]), 0, rfl⟩
end Go.Proofs.YtpgedklpnnhjlaaGreatDoor
