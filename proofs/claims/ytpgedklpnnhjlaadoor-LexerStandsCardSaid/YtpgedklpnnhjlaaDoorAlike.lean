/- Walks: Alike of the reference. -/
import Derived.Test.YtpgedklpnnhjlaaDoorSame
set_option maxHeartbeats 1000000
set_option maxRecDepth 100000
namespace Go.Proofs.YtpgedklpnnhjlaaDoor
open Go.RowKit
/-- Are two lists of tokens equal but for places? -/
def alikeB (a b : List Tok) : Bool := decide (a.map (fun t => (t.kind, t.text)) = b.map (fun t => (t.kind, t.text)))
theorem alike_any (w : World) (v u : Value) (ts us : List Tok) (hv : TokSl w v ts) (hu : TokSl w u us) (hl : ts.length ≤ 1000000000) (hl2 : us.length ≤ 1000000000) :
    Calls Tryd.prog 9 #[v, u] w fun e w' => e = .returned (.bool (alikeB ts us)) ∧ ∃ n, w' = w.drewN n := by
  by_cases hlen : ts.length = us.length
  · rcases hv with ⟨rfl, a, c, rfl⟩ | ⟨b, o, c, rfl, hlt, hc⟩
    · have : us = [] := List.eq_nil_of_length_eq_zero (by simpa using hlen.symm)
      subst this
      obtain ⟨a', c', rfl⟩ := hu.len
      clear hu
      go_enter Tryd.func9, Tryd.ntmps9
      go_wp2_with fail
      go_rounds 1
      go_ret
      exact ⟨rfl, 0, rfl⟩
    · rcases hu with ⟨rfl, a, c', rfl⟩ | ⟨b', o', c', rfl, hlt', hc'⟩
      · have : ts = [] := List.eq_nil_of_length_eq_zero (by simpa using hlen)
        subst this
        clear hc
        go_enter Tryd.func9, Tryd.ntmps9
        go_wp2_with fail
        go_rounds 1
        go_ret
        exact ⟨rfl, 0, rfl⟩
      · have HC := Lib.hid hc
        have HC' := Lib.hid hc'
        clear hc hc'
        have hb0 : ((ts.length : Int) != us.length) = false := by rw [hlen]; simp
        go_enter Tryd.func9, Tryd.ntmps9
        go_wp2_with fail
        go_loopw [5] (fun i wr => (∃ k : Nat, k ≤ ts.length ∧ i = .int .i64 k ∧ Hid (alikeB (ts.take k) (us.take k) = true)) ∧ ∃ n, wr = w.drewN n) (fun i _ => ts.length - (intOf i).toNat)
        case atStart => exact ⟨⟨0, by omega, rfl, show _ = _ from rfl⟩, 0, rfl⟩
        case round =>
          obtain ⟨⟨k, hk, rfl, hall⟩, n, rfl⟩ := hrel
          by_cases hlt1 : k < ts.length
          · have hlt2 : k < us.length := by omega
            obtain ⟨c0, c1, c2⟩ := HC.out k hlt1
            obtain ⟨d0, d1, d2⟩ := HC'.out k hlt2
            have hlen' := Lib.hid hlen
            clear hlen
            have htk : Hid (alikeB (ts.take (k + 1)) (us.take (k + 1)) = true ↔ alikeB (ts.take k) (us.take k) = true ∧ ts[k].kind = us[k].kind ∧ ts[k].text = us[k].text) := by
              show _ ↔ _
              simp only [alikeB, decide_eq_true_eq]
              rw [List.take_succ_eq_append_getElem hlt1, List.take_succ_eq_append_getElem hlt2, List.map_append, List.map_append]
              constructor
              · intro h
                have := List.append_inj' h rfl
                exact ⟨this.1, by simpa using this.2⟩
              · rintro ⟨h1, h2, h3⟩; rw [h1]; simp [h2, h3]
            have hno : Hid (¬ (ts[k].kind = us[k].kind ∧ ts[k].text = us[k].text) → alikeB ts us = false) := by
              intro h
              rw [alikeB, decide_eq_false_iff_not]
              intro e
              have e1 := congrArg (fun l => l[k]?) e
              simp only [List.getElem?_map, List.getElem?_eq_getElem hlt1, List.getElem?_eq_getElem hlt2, Option.map_some, Option.some.injEq, Prod.mk.injEq] at e1
              exact h e1
            generalize ts[k] = x at *
            generalize us[k] = y at *
            obtain ⟨kx, tx, px⟩ := x
            obtain ⟨ky, ty, py⟩ := y
            simp only at c0 c1 d0 d1
            clear c2 d2
            replace htk := Lib.hid htk.out
            replace hno := Lib.hid hno.out
            by_cases h1 : kx = ky
            · have hb1 : (kx != ky) = false := by simp [h1]
              by_cases h2 : tx = ty
              · have hb2 : (tx == ty) = true := by simp [h2]
                replace h1 := Lib.hid h1
                replace h2 := Lib.hid h2
                go_wp2_with fail
                go_quiet (fail)
                go_wp2_with fail
                go_roundw
                case rel => exact ⟨⟨k + 1, by omega, by go_num, htk.out.2 ⟨hall.out, h1.out, h2.out⟩⟩, n + nq, by first | rfl | rw [World.drewN_drewN]⟩
                case measure => simp [intOf]; omega
              · have hb2 : (tx == ty) = false := by simp [h2]
                replace h1 := Lib.hid h1
                replace h2 := Lib.hid h2
                go_wp2_with fail
                go_quiet (fail)
                go_wp2_with fail
                go_ret
                exact ⟨ret_b (hno.out (fun e => h2.out e.2)).symm, n + nq, by first | rfl | rw [World.drewN_drewN]⟩
            · have hb1 : (kx != ky) = true := by simp [h1]
              replace h1 := Lib.hid h1
              go_wp2_with fail
              go_quiet (fail)
              go_wp2_with fail
              go_ret
              exact ⟨ret_b (hno.out (fun e => h1.out e.1)).symm, n + nq, by first | rfl | rw [World.drewN_drewN]⟩
          · go_wp2_with fail
            go_ret
            refine ⟨ret_b ?_, n, rfl⟩
            have h1 := hall.out
            rw [List.take_of_length_le (by omega), List.take_of_length_le (by omega)] at h1
            exact h1.symm
  · have hb0 : ((ts.length : Int) != us.length) = true := by rw [bne_iff_ne]; omega
    obtain ⟨a, c, rfl⟩ := hv.len
    obtain ⟨a', c', rfl⟩ := hu.len
    have hne : alikeB ts us = false := by
      rw [alikeB, decide_eq_false_iff_not]
      intro e; exact hlen (by simpa using congrArg List.length e)
    replace hne := Lib.hid hne
    clear hv hu hlen
    go_enter Tryd.func9, Tryd.ntmps9
    go_wp2_with fail
    go_ret
    exact ⟨ret_b hne.out.symm, 0, rfl⟩
end Go.Proofs.YtpgedklpnnhjlaaDoor
