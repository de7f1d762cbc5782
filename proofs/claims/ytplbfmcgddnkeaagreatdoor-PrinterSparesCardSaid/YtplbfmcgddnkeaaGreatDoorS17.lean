/- Joined: Tl, Up, Wp. -/
import Derived.Test.YtplbfmcgddnkeaaGreatDoorS16
import Derived.Test.YtplbfmcgddnkeaaGreatDoorS03
import Derived.Test.YtplbfmcgddnkeaaGreatDoorS05
set_option linter.unusedVariables false
set_option linter.unusedSimpArgs false
section
namespace Go.Proofs.YtplbfmcgddnkeaaGreatDoor
def Tl (U : List Tok) (i : Nat) (K : List KT) : Prop := (kts U).drop i = K
section
variable {U : List Tok} {i : Nat} {K : List KT} {x : KT} {res : List UInt8 → Bool}
theorem tl_get (h : Tl U i (x :: K)) : (kts U).getD i ktEnd = x := by
  have h1 : ((kts U).drop i)[0]? = some x := by rw [show (kts U).drop i = _ from h]; rfl
  rw [List.getElem?_drop, Nat.add_zero] at h1
  rw [List.getD_eq_getElem?_getD, h1]; rfl
theorem tl_kind (h : Tl U i (x :: K)) : (tk U i).kind = x.1 := by rw [tk_kind, tl_get h]
theorem tl_text (h : Tl U i (x :: K)) : (tk U i).text = x.2 := by rw [tk_text, tl_get h]
theorem tl_isW (h : Tl U i (x :: K)) (ws : List (List UInt8)) : isW U ws i = ((decide (x.1 = 2) || decide (x.1 = 0)) && ws.contains x.2) := by unfold isW; rw [tl_kind h, tl_text h]
end
def w0 : List UInt8 := [112, 114, 111, 99, 101, 115, 115, 101, 115]
section
variable {U : List Tok} {res : List UInt8 → Bool} {f i : Nat}
theorem isW_F {c : KT} {K : List KT} {ws : List (List UInt8)} (h : Tl U i (c :: K)) (e : ((decide (c.1 = 2) || decide (c.1 = 0)) && ws.contains c.2) = false) : ¬ isW U ws i = true := by rw [tl_isW h, e]; decide
end
inductive Emb (x y z : Syn) : Syn → Prop
  | mk {p0 p1 p2 p3 p4 p5 p6 p7 p8 p9 : Int} {x1 x2 y1 z1 : Syn} (h1 : Twin Any x x1) (h2 : Twin Any x x2) (h3 : Twin Any y y1) (h4 : Twin Any z z1) :
    Emb x y z (.mk 0 [] 3 p0 [.mk 1 [116] 2 p1 [.mk 9 [] 4 p2 [], .mk 2 [] 0 p3 [x1], .mk 3 [] 0 p4 [x2]], .mk 5 [97] 0 p5 [y1], .mk 6 [102] 0 p6 [z1], .mk 7 [112] 1 p7 [.mk 8 [116] 0 p8 [], .mk 8 [97] 0 p9 []]])
end Go.Proofs.YtplbfmcgddnkeaaGreatDoor
end
section
namespace Go.Proofs.YtplbfmcgddnkeaaGreatDoor
def DO (x : Syn) (L : Nat) (o : Out Syn) : Prop := match o with | .ok y l => l = L ∧ Twin Any x y | .err _ e => e = 12 | .none => False
theorem DO.bind {x z : Syn} {L M : Nat} {o : Out Syn} {f : Syn → Nat → Out Syn} (h : DO x L o) (hf : ∀ y, Twin Any x y → DO z M (f y L)) : DO z M (o.bind f) := by
  cases o with
  | none => exact h
  | err p e => exact h
  | ok y l =>
    obtain ⟨rfl, h⟩ := h
    exact hf y h
section
variable {U : List Tok} {res : List UInt8 → Bool} {f lv i L : Nat} {x y : Syn} {K : List KT} {c : KT}
def noOp (ops : List (List UInt8)) (c : KT) : Prop := ((decide (c.1 = 2) || decide (c.1 = 0)) && ops.contains c.2) = false
theorem noOp.isW {ops : List (List UInt8)} (h : Tl U i (c :: K)) (hc : noOp ops c) : ¬ isW U ops i = true := isW_F h hc
def noGo (c : KT) : Prop := ∀ ws ∈ goesOn, noOp ws c
theorem noGo.of {ws : List (List UInt8)} (h : noGo c) (hw : ws ∈ goesOn := by simp [goesOn]) : noOp ws c := h ws hw
end
structure Reads (res : List UInt8 → Bool) (nt : NT) (s : List UInt8) (x : Syn) (T : List Tok) (C : List KT) (f j : Nat) : Prop where
  lx : Lx s (C ++ [ktEnd])
  kt : kts T = C ++ [ktEnd]
  tk : Toks C
  no : (35 : UInt8) ∉ s
  rd : whole T (Proofs.YtplbfmcgddnkeaaGreatDoor.rd res T f nt) = .ok x j
section
variable {res : List UInt8 → Bool} {nt : NT} {s : List UInt8} {x : Syn} {T U : List Tok} {C : List KT} {f g j i lv : Nat}
end
end Go.Proofs.YtplbfmcgddnkeaaGreatDoor
end
section
namespace Go.Proofs.YtplbfmcgddnkeaaGreatDoor
def DN (x : Syn) (L : Nat) (o : Out Syn) : Prop := match o with | .ok y l => l = L ∧ Twin Any x y | .err _ e => e = 12 | .none => True
theorem DN.bind {x z : Syn} {L M : Nat} {o : Out Syn} {f : Syn → Nat → Out Syn} (h : DN x L o) (hf : ∀ y, Twin Any x y → DN z M (f y L)) : DN z M (o.bind f) := by
  cases o with
  | none => exact h
  | err p e => exact h
  | ok y l =>
    obtain ⟨rfl, h⟩ := h
    exact hf y h
section
variable {U : List Tok} {res : List UInt8 → Bool} {f g lv i L M : Nat} {x y : Syn} {K A B : List KT} {c : KT} {r : Rd} {ops : List (List UInt8)}
end
theorem digit_ofNat {d : Nat} (hd : d < 10) : isDigit (UInt8.ofNat (48 + d)).toNat = true := by
  have : (UInt8.ofNat (48 + d)).toNat = 48 + d := by rw [UInt8.toNat_ofNat']; omega
  rw [this]; unfold isDigit; simp; omega
theorem decGo_digit : ∀ f n l, n < f → (∀ c ∈ l, isDigit c.toNat = true) → decGo f n l ≠ [] ∧ ∀ c ∈ decGo f n l, isDigit c.toNat = true := by
  intro f
  induction f with
  | zero => intro n l h; omega
  | succ f ih =>
    intro n l h hl
    rw [decGo]
    split
    · rename_i h1
      refine ⟨List.cons_ne_nil _ _, fun c hc => ?_⟩
      rcases List.mem_cons.1 hc with rfl | hc
      · exact digit_ofNat h1
      · exact hl c hc
    · rename_i h1
      refine ih _ _ (by omega) fun c hc => ?_
      rcases List.mem_cons.1 hc with rfl | hc
      · exact digit_ofNat (Nat.mod_lt _ (by omega))
      · exact hl c hc
end Go.Proofs.YtplbfmcgddnkeaaGreatDoor
end
