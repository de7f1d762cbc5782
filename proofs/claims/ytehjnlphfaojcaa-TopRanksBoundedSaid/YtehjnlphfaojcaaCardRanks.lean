/- For every two matrices, roundtabletop's TopRanksBounded returns true and the input reads behind the call as before. No conditions. -/
import Derived.Test.YtehjnlphfaojcaaLawRanks
import Derived.Test.YtehjnlphfaojcaaOpenM
import Derived.Test.YtehjnlphfaojcaaRows
import Derived.Handed
import Derived.JoinedOf
import Derived.ProofKit
set_option linter.unusedVariables false
namespace Go.Proofs.Ytehjnlphfaojcaa
open Go.ChangeShapes Go.WideShapes Go.ChangeAt Go.RowKit
open Go.ChangeMaps (open_string shut_string)
theorem own : ownKnob Try.prog.godebug = none := by kernel_rfl
set_option maxRecDepth 100000
theorem lifted (os : Os) (started : os.Started) (H : Type) (enc : TypeId × Value → H) :
    ReturnsInHanded {} Try.checked os 3 .any (Rows.topRanksBoundedSpec.pre6 enc Try.prog Try.f3 [] false)
      (Rows.topRanksBoundedSpec.post enc Try.prog Try.f3 false true false false) := by
  refine returnsInHanded_of_change (C := Try.checked) own started (by kernel_rfl) Try.func3
    (ChangeSpec.witness6 (enc := enc) (C := Try.checked) false ⟨#[], #[.agg #[.int .i64 0, .slice none 0 0], .agg #[.int .i64 0, .slice none 0 0]], []⟩ 8 (by kernel_rfl) (by kernel_rfl) (by kernel_rfl) (by kernel_rfl)) ?_
  intro W base args ds gs before hval0 hW _ _
  have hval : ∀ (j : Nat) t v, Try.f3.params[j]? = some t → args[j]? = some v → Value.okWide Try.prog W .any base t v := hval0
  have hW' := hW
  obtain ⟨p, q, hA0, hV, rfl, hfz, hnd⟩ := hW
  have hA : DataW.TrodAll enc Try.prog W 0 (fun _ => true) true Try.f3.params.toList args.toList ds p := hA0
  rw [Try.params3] at hA hval
  obtain ⟨v0, v1, d0, d1, p0, p1, rfl, rfl, rfl, h0, h1⟩ := trodAll_two hA
  obtain ⟨rfl, rfl⟩ := trodVars_none hV
  clear hA0 hval0
  simp only [List.append_nil] at hW'
  have hlt := fun x (hx : x ∈ _) => hW'.lt x hx
  have k0 := h0
  have k1 := h1
  obtain ⟨na, ra, m0⟩ := open_mat (hval 0 24 v0 rfl rfl) h0
  obtain ⟨nb, rb, m1⟩ := open_mat (hval 1 24 v1 rfl rfl) h1
  refine (walkRanks na nb ra rb v0 v1 W m0 m1).mono fun e W' ⟨he, hb⟩ => ?_
  subst he
  exact ⟨_, rfl, _, _, _, [], _, [], hW', trodAll_mk1 (shut_bool Try.underlying4 _), trodAll_mk2 (Below.trod laidOut (by kernel_rfl) (of_decide_eq_true (by kernel_rfl)) k0 hb (fun x hx => hlt x (by first | exact hx | exact absurd hx (by simp; done) | (simp [hx]; done)))) (Below.trod laidOut (by kernel_rfl) (of_decide_eq_true (by kernel_rfl)) k1 hb (fun x hx => hlt x (by first | exact hx | exact absurd hx (by simp; done) | (simp [hx]; done)))), rfl, hb.frame _, fun h => by cases h⟩
theorem topRanksBounded_said : Rows.TopRanksBoundedSaid :=
  OpenClaim.holds_of_wide 3 Try.f3 rfl rfl rfl rfl rfl rfl rfl ⟨rfl, rfl, rfl, rfl, rfl⟩ rfl rfl rfl rfl rfl (by kernel_rfl) Try.func3 (by kernel_rfl)
    (of_decide_eq_true (by kernel_rfl)) (by unfold Func.isWrapper; first | (rw [if_pos (by decide +kernel)]; kernel_rfl) | (rw [if_neg (by decide +kernel)]; exact ⟨rfl, rfl⟩))
    (fun os started H enc _ => lifted os started H enc)
#print axioms topRanksBounded_said
end Go.Proofs.Ytehjnlphfaojcaa
