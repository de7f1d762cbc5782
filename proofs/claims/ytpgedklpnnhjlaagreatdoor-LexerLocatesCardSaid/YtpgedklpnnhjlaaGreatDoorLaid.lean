/- What the row's listed variables give the walks. -/
import Derived.Test.YtpgedklpnnhjlaaGreatDoorRows
import Derived.Test.YtpgedklpnnhjlaaGreatDoorAwake
import Derived.ProofKit
import Derived.LaidMore
import Derived.LaidSub
import Derived.OpenShut
namespace Go.Proofs.YtpgedklpnnhjlaaGreatDoor
open Go.RowKit
/-- An array of strings that reads as the texts holds the texts, cell for cell. -/
theorem cells_of_texts {H : Type} {enc : TypeId × Value → H} {P : Program} {w : World} {base : Nat} {sp : Nat → Bool} {held : Bool} {fuel : Nat} {t e : TypeId} {n : Nat} {cs : List Value} {zs : List (List UInt8)} {p : List MemPlace}
    (ht : P.underlying t = some (.array n e)) (he : P.underlying e = some .string) (hce : P.cellsOf e = 1) (hct : P.cellsOf t = n)
    (h : DataW.trod enc P w base sp held fuel t cs = some (.agg (zs.map fun z => .lit (.string z)), p)) : cs = zs.map fun z => Value.string ⟨z.toArray⟩ := by
  cases fuel with
  | zero => simp [DataW.trod] at h
  | succ fuel =>
    simp only [DataW.trod, ht, hce, hct, Nat.mul_one] at h
    split at h
    · rename_i hl
      obtain ⟨xs, hm, hx⟩ := Option.map_eq_some_iff.1 h
      have hxs : xs.map (·.1) = zs.map fun z => (DataW.lit (.string z) : DataW H) := by
        have := congrArg Prod.fst hx
        simpa using this
      have hxl : xs.length = n := by simpa using Lib.mapM_length hm
      have hzl : zs.length = n := by
        have := congrArg List.length hxs
        simp at this
        omega
      apply List.ext_getElem?
      intro i
      by_cases hi : i < n
      · obtain ⟨b, hb, hf⟩ := Lib.mapM_at hm i i (by simp [hi])
        obtain ⟨z, hc, rfl, _⟩ := DataW.trod_string he hf
        have h1 : cs[i]? = some (.string z) := by
          have := congrArg (·[0]?) hc
          simpa [List.getElem?_take, List.getElem?_drop] using this
        have h2 : (xs.map (·.1))[i]? = some (DataW.lit (.string z.data.toList) : DataW H) := by simp [hb]
        rw [hxs] at h2
        simp only [List.getElem?_map, Option.map_eq_some_iff, DataW.lit.injEq, Lit.string.injEq] at h2
        obtain ⟨z', hz', e2⟩ := h2
        simp [h1, hz', e2]
      · rw [List.getElem?_eq_none (by omega), List.getElem?_eq_none (by simp; omega)]
    · cases h
theorem signs_of_laid {W : World} {l : List (String × DataW Unit)} (h : laidMet Tryz.prog l W) (hl : l.filter (fun x => x.1 == "roundtable/lexer.signs") = [("roundtable/lexer.signs", .agg (signTexts.map fun z => .lit (.string z)))]) : SignsAt W := by
  have h1 := h.filter (fun x => x.1 == "roundtable/lexer.signs")
  rw [hl] at h1
  obtain ⟨ps, ⟨g', t', cs, fuel, p, q, hg', ht', hvar, hd, _, _⟩, _⟩ := h1
  obtain rfl := Option.some.inj ((show Tryz.prog.globalNamed "roundtable/lexer.signs" = some 0 by kernel_rfl).symm.trans hg')
  obtain rfl := Option.some.inj ((show (Tryz.prog.globals[0]?).map (·.type) = some 96 by kernel_rfl).symm.trans ht')
  have hc := cells_of_texts Tryz.underlying96 Tryz.underlying9 (by kernel_rfl) (by kernel_rfl) hd
  unfold World.var? at hvar
  rw [hg'] at hvar
  simp only [Option.bind_some] at hvar
  have hcs : cs = signVals := by
    apply Array.toList_inj.1
    rw [hc]; rfl
  split at hvar
  · rename_i c t fr hh
    simp only [Option.some.injEq] at hvar
    exact ⟨t, fr, by rw [hh, hvar, hcs]⟩
  · cases hvar
theorem space_of_laid {W : World} {l : List (String × DataW Unit)} (h : laidMet Tryz.prog l W) (hl : l.filter (fun x => x.1 == "strings.asciiSpace") = [("strings.asciiSpace", Lib.tabData .u8 Lib.asciiSpaceTab)]) : SpaceAt W := by
  have h1 := h.filter (fun x => x.1 == "strings.asciiSpace")
  rw [hl] at h1
  exact Lib.tabIs_of_head (g := 1) (t := 101) (e := 5) (n := 256) (by kernel_rfl) (by kernel_rfl) Tryz.underlying101 Tryz.underlying5 (by kernel_rfl) (by kernel_rfl) h1
/-- What the shape of the world gives of internal/bytealg.MaxLen. -/
theorem maxlen_of_shaped {W : World} (h : W.ShapedOpen Tryz.prog) : MaxLenAt W := Tryz.laysM145.s1_3 W h
end Go.Proofs.YtpgedklpnnhjlaaGreatDoor
