/- Walks: the statement LexerJoins. -/
import Derived.Test.YtpgedklpnnhjlaaGreatDoorLawNames
import Derived.Test.YtpgedklpnnhjlaaGreatDoorRefD
set_option maxHeartbeats 4000000
set_option maxRecDepth 100000
namespace Go.Proofs.YtpgedklpnnhjlaaGreatDoor
open Go.RowKit
theorem walkJoins (v : Value) (ts : List Tok) (w : World) (hl : ts.length ≤ maxLen) (hs : ∀ t ∈ ts, t.text.length ≤ maxLen) (hv : TokSl w v ts) (he : Env w) :
    Calls Tryz.prog 4 #[v] w fun e w' => e = .returned (.bool true) ∧ Below w.heap.size w w' := by
  have E0 := Lib.hid he
  have B0 := Lib.hid (Below.refl w.heap.size w)
  have hs := Lib.hid hs
  unfold maxLen at hl
  clear he
  by_cases h60 : 60 < ts.length
  · obtain ⟨a, c, rfl⟩ := hv.len
    clear hv
    go_enter Tryz.func4, Tryz.ntmps4
    go_wp2_with fail
    (with_reducible refine (awake_any _ E0.out).mono ?_); rintro e w1 ⟨rfl, b1⟩
    have E1 := Lib.hid (E0.out.below b1)
    have B1 := Lib.hid (B0.out.trans (b1.mono B0.out.size))
    replace b1 := Lib.hid b1
    go_wp2_with fail
    go_ret
    exact ⟨rfl, B1.out⟩
  · have hv0 := Lib.hid hv
    rcases hv with ⟨hn, a, c, rfl⟩ | ⟨b, o, c, rfl, hlt, hc⟩
    · subst hn
      have hall : Hid (∀ t ∈ ([] : List Tok), t.text.length ≤ 60) := by intro t h; simp at h
      have hbig : Hid (∀ t ∈ ([] : List Tok), t.text.length ≤ 1000000) := by intro t h; simp at h
      generalize hts : ([] : List Tok) = ts at *
      have hts := Lib.hid hts
      have hv := hv0
      clear hv0 hl
      have h61 : ts.length ≤ 60 := by omega
      clear h60
      go_enter Tryz.func4, Tryz.ntmps4
      go_wp2_with fail
      refine wp_loop_rounds 1 ?_
      rw [rounds_succ]
      have B1 := Lib.hid (Below.refl w.heap.size w)
      have E1 := Lib.hid (E0.out.below B1.out)
      have t1 := Lib.hid (hv.out.below B1.out)
      clear B0
      go_wp2_with fail
      (with_reducible refine (join_any _ ts _ t1.out (by omega) hbig.out E1.out.signs E1.out.signs.lt).mono ?_); rintro e w2 ⟨rfl, b2⟩
      have B2 := Lib.hid (B1.out.trans (b2.mono B1.out.size))
      have E2 := Lib.hid (E1.out.below b2)
      have t2 := Lib.hid (t1.out.below b2)
      clear b2
      rcases hj : join ts with er | s
      all_goals
        simp only [joinVal]
        go_wp2_with fail
        (with_reducible refine (refJoin_any _ ts _ t2.out (by omega) hall.out).mono ?_); rintro e w3 ⟨rfl, n3, h3⟩
        have b3 := below_of_drawn h3
        have B3 := Lib.hid (B2.out.trans (b3.mono B2.out.size))
        have E3 := Lib.hid (E2.out.below b3)
        clear b3 h3
        rw [hj]
        simp only [joinVal]
        go_wp2_with fail
        (with_reducible refine (awake_any _ E3.out).mono ?_); rintro e w4 ⟨rfl, b4⟩
        have B4 := Lib.hid (B3.out.trans (b4.mono B3.out.size))
        clear b4
        go_wp2_with fail
        go_ret
        exact ⟨rfl, B4.out⟩
    · have HC := Lib.hid hc
      have hv := hv0
      clear hc hv0
      go_enter Tryz.func4, Tryz.ntmps4
      go_wp2_with fail
      go_loopw [15] (fun i wr => ∃ k : Nat, k ≤ ts.length ∧ i = .int .i64 k ∧ Below w.heap.size w wr ∧ Hid (∀ j (h : j < ts.length), j < k → ts[j].text.length ≤ 60)) (fun i _ => ts.length - (intOf i).toNat)
      case atStart => exact ⟨0, by omega, rfl, Below.refl _ _, by intro j h hj; omega⟩
      case round =>
        obtain ⟨k, hk, rfl, hb, hsm⟩ := hrel
        by_cases hk1 : k < ts.length
        · obtain ⟨c0, c1, c2⟩ := HC.out k hk1
          have htl := hs.out ts[k] (List.getElem_mem hk1)
          unfold maxLen at htl
          have hsm2 : ts[k].text.length ≤ 60 → Hid (∀ j (h : j < ts.length), j < k + 1 → ts[j].text.length ≤ 60) := by
            intro h60 j h hj
            rcases Nat.lt_succ_iff_lt_or_eq.1 hj with h' | rfl
            · exact hsm.out j h h'
            · exact h60
          replace hsm2 := Lib.hid hsm2
          have d0 : wr.cell? ⟨b, o + k * 3, none⟩ = some (.int .i64 ts[k].kind) := (hb.cell hlt).trans c0
          have d1 : wr.cell? ⟨b, o + k * 3 + 1, none⟩ = some (.string ⟨ts[k].text.toArray⟩) := (hb.cell hlt).trans c1
          have d2 : wr.cell? ⟨b, o + k * 3 + 2, none⟩ = some (.int .i64 ts[k].pos) := (hb.cell hlt).trans c2
          have hbk : b < wr.heap.size := by have := hb.size; omega
          clear c0 c1 c2
          generalize ts[k] = t at *
          obtain ⟨kd, tx, ps⟩ := t
          simp only at d0 d1 d2 htl
          by_cases hlong : 60 < tx.length
          · have E1 := Lib.hid (fun o => (E0.out.below hb).below ((Below.refl wr.heap.size wr).alloc (Nat.le_refl _) o))
            have B1 := Lib.hid (fun o => hb.alloc hb.size o)
            go_wp2_with fail
            (with_reducible refine (awake_any _ (E1.out _)).mono ?_); rintro e w1 ⟨rfl, b1⟩
            have B2 := Lib.hid ((B1.out _).trans (b1.mono (B1.out _).size))
            clear b1
            go_wp2_with fail
            go_ret
            exact ⟨rfl, B2.out⟩
          · go_wp2_with fail
            go_roundw
            case rel => exact ⟨k + 1, by omega, by go_num, hb.alloc hb.size _, hsm2.out (by simp only; omega)⟩
            case measure => simp [intOf]; omega
        · have hall : Hid (∀ t ∈ ts, t.text.length ≤ 60) := by
            intro t ht
            obtain ⟨j, hj, rfl⟩ := List.mem_iff_getElem.1 ht
            exact hsm.out j hj (by omega)
          have hbig : Hid (∀ t ∈ ts, t.text.length ≤ 1000000) := fun t ht => by have := hall.out t ht; omega
          replace hb := Lib.hid hb
          have B1 := Lib.hid (hb.out)
          have E1 := Lib.hid (E0.out.below B1.out)
          have t1 := Lib.hid (hv.out.below B1.out)
          clear hb
          go_wp2_with fail
          (with_reducible refine (join_any _ ts _ t1.out (by omega) hbig.out E1.out.signs E1.out.signs.lt).mono ?_); rintro e w2 ⟨rfl, b2⟩
          have B2 := Lib.hid (B1.out.trans (b2.mono B1.out.size))
          have E2 := Lib.hid (E1.out.below b2)
          have t2 := Lib.hid (t1.out.below b2)
          clear b2
          rcases hj : join ts with er | s
          all_goals
            simp only [joinVal]
            go_wp2_with fail
            (with_reducible refine (refJoin_any _ ts _ t2.out (by omega) hall.out).mono ?_); rintro e w3 ⟨rfl, n3, h3⟩
            have b3 := below_of_drawn h3
            have B3 := Lib.hid (B2.out.trans (b3.mono B2.out.size))
            have E3 := Lib.hid (E2.out.below b3)
            clear b3 h3
            rw [hj]
            simp only [joinVal]
            go_wp2_with fail
            (with_reducible refine (awake_any _ E3.out).mono ?_); rintro e w4 ⟨rfl, b4⟩
            have B4 := Lib.hid (B3.out.trans (b4.mono B3.out.size))
            clear b4
            go_wp2_with fail
            go_ret
            exact ⟨rfl, B4.out⟩
end Go.Proofs.YtpgedklpnnhjlaaGreatDoor
