/- Joined: Twn, Join, LexA, LexB, LexC, Shelf. -/
import Derived.Test.YtplbfmcgddnkeaaGreatDoorProg
import Derived.Shelf.Strings.Prefix
import Derived.Shelf.Strings.Builder1
import Derived.Shelf.Strings.Trim
import Derived.Shelf.Small.Utf8
import Derived.Shelf.Small.Strs
import Derived.Shelf.Strconv.Atoi
import Derived.Shelf.Strconv.Itoa0
import Derived.Shelf.Strconv.Itoa1
import Derived.Shelf.LaysM
import Derived.Shelf.Strconv.Itoa2
import Derived.Shelf.Strconv.Itoa3
import Derived.Shelf.Strconv.AtoiErrFast
import Derived.Shelf.Strconv.ParseIntEmpty
import Derived.Shelf.Strconv.AtoiFail
import Derived.Shelf.Strconv.Clone
import Derived.Shelf.Strconv.SyntaxError
import Derived.Shelf.LaysC
import Derived.Shelf.Strconv.ToError
import Derived.Shelf.Strconv.Lower
import Derived.Shelf.Strconv.ParseUint10
import Derived.Shelf.Strconv.ParseUint10Empty
import Derived.Shelf.Strconv.ParseUint10Any
import Derived.Shelf.Strconv.ParseInt10
import Derived.Shelf.Strconv.AtoiLong
import Derived.Shelf.Strconv.AtoiInnerAll
import Derived.Shelf.Strconv.RangeError
import Derived.Shelf.Strconv.ToErrorRange
import Derived.Shelf.Strconv.AtoiAll
import Derived.Shelf.Strings.Search1
import Derived.Shelf.Strings.Fields
import Derived.Shelf.Unicode.Latin
import Derived.Shelf.Strings.Runes
import Derived.Shelf.Strings.AsciiSet
import Derived.Shelf.Unicode.DecodeSlow
import Derived.Shelf.Unicode.Is16White
import Derived.Shelf.Unicode.IsSpaceAny
import Derived.Shelf.Unicode.Is16Any
import Derived.Shelf.Unicode.Is32Any
import Derived.Shelf.Unicode.ExclAny
import Derived.Shelf.Slices.Turned
import Derived.Test.YtplbfmcgddnkeaaGreatDoorS01
set_option linter.unusedVariables false
set_option linter.unusedSimpArgs false
section
namespace Go.Proofs.YtplbfmcgddnkeaaGreatDoor
mutual
inductive Twin (P : Int → Int → Prop) : Syn → Syn → Prop
  | mk {kd : Int} {tx : List UInt8} {n a b : Int} {k l : List Syn} (hp : P a b) (h : TwinL P k l) : Twin P (.mk kd tx n a k) (.mk kd tx n b l)
inductive TwinL (P : Int → Int → Prop) : List Syn → List Syn → Prop
  | nil : TwinL P [] []
  | cons {x y : Syn} {k l : List Syn} (h : Twin P x y) (hr : TwinL P k l) : TwinL P (x :: k) (y :: l)
end
theorem TwinL.length {P : Int → Int → Prop} : ∀ {k l : List Syn}, TwinL P k l → k.length = l.length
  | _, _, .nil => rfl
  | _, _, .cons _ hr => by rw [List.length_cons, List.length_cons, hr.length]
theorem TwinL.get {P : Int → Int → Prop} : ∀ {k l : List Syn}, TwinL P k l → ∀ i (h : i < k.length) (h' : i < l.length), Twin P k[i] l[i]
  | _, _, .nil, i, h, _ => absurd h (Nat.not_lt_zero _)
  | _, _, .cons hx hr, 0, _, _ => hx
  | _, _, .cons hx hr, i + 1, h, h' => hr.get i (by simpa using h) (by simpa using h')
theorem TwinL.add {P : Int → Int → Prop} : ∀ {k l : List Syn}, TwinL P k l → ∀ {x y : Syn}, Twin P x y → TwinL P (k ++ [x]) (l ++ [y])
  | _, _, .nil, _, _, h => .cons h .nil
  | _, _, .cons hx hr, _, _, h => .cons hx (hr.add h)
theorem Twin.num_eq {P : Int → Int → Prop} {x y : Syn} (h : Twin P x y) : x.num = y.num := by cases h; rfl
theorem Twin.text_eq {P : Int → Int → Prop} {x y : Syn} (h : Twin P x y) : x.text = y.text := by cases h; rfl
theorem Twin.kind_eq {P : Int → Int → Prop} {x y : Syn} (h : Twin P x y) : x.kind = y.kind := by cases h; rfl
theorem Twin.kids_rel {P : Int → Int → Prop} {x y : Syn} (h : Twin P x y) : TwinL P x.kids y.kids := by cases h; assumption
mutual
theorem Twin.symm {P : Int → Int → Prop} : ∀ {x y : Syn}, Twin P x y → Twin (fun a b => P b a) y x
  | _, _, .mk hp h => .mk hp (TwinL.symm h)
theorem TwinL.symm {P : Int → Int → Prop} : ∀ {k l : List Syn}, TwinL P k l → TwinL (fun a b => P b a) l k
  | _, _, .nil => .nil
  | _, _, .cons h hr => .cons (Twin.symm h) (TwinL.symm hr)
end
mutual
theorem Twin.trans {P Q R : Int → Int → Prop} (hPQ : ∀ a b c, P a b → Q b c → R a c) : ∀ {x y z : Syn}, Twin P x y → Twin Q y z → Twin R x z
  | _, _, _, .mk hp h, .mk hq h' => .mk (hPQ _ _ _ hp hq) (TwinL.trans hPQ h h')
theorem TwinL.trans {P Q R : Int → Int → Prop} (hPQ : ∀ a b c, P a b → Q b c → R a c) : ∀ {k l m : List Syn}, TwinL P k l → TwinL Q l m → TwinL R k m
  | _, _, _, .nil, .nil => .nil
  | _, _, _, .cons h hr, .cons h' hr' => .cons (Twin.trans hPQ h h') (TwinL.trans hPQ hr hr')
end
end Go.Proofs.YtplbfmcgddnkeaaGreatDoor
end
section
namespace Go.Proofs.YtplbfmcgddnkeaaGreatDoor
def formedB (kind : Int) (s : List UInt8) : Bool :=
  if kind = 3 then s.isEmpty
  else if kind = 2 then decide (s ∈ signTexts)
  else !s.isEmpty && decide (runLen isWordy s = s.length) && decide ((wordRes s).2.2 = 0) && decide (((wordRes s).1 : Int) = kind)
def wordlyB (kind : Int) : Bool := decide (kind = 0) || decide (kind = 1)
def gap (p t : Tok) : Bool := (wordlyB p.kind && wordlyB t.kind) || (decide (p.text = [60]) && decide (t.text = [61]))
def errTok (last : Bool) (t : Tok) : Nat :=
  if t.kind < 0 ∨ 3 < t.kind then 1 else if formedB t.kind t.text = false then 3 else if t.kind = 3 ∧ last = false then 14 else 0
def joinErrs : List Tok → Nat
  | [] => 0
  | t :: r => if errTok r.isEmpty t = 0 then joinErrs r else errTok r.isEmpty t
def joinGo : Option Tok → List Tok → List UInt8
  | _, [] => []
  | none, t :: r => t.text ++ joinGo (some t) r
  | some p, t :: r => (if gap p t then [32] else []) ++ (t.text ++ joinGo (some t) r)
end Go.Proofs.YtplbfmcgddnkeaaGreatDoor
end
section
set_option maxHeartbeats 400000
namespace Go.Proofs.YtplbfmcgddnkeaaGreatDoor
open Go.RowKit
theorem letter_any (c : Int) (w : World) :
    Calls Tryz.prog 80 #[.int .u8 c] w fun e w' => e = .returned (.bool (isLetter c)) ∧ w' = w := by
  go_enter Tryz.func80, Tryz.ntmps80
  go_wp2
  all_goals (go_ret; refine ⟨?_, rfl⟩; congr 2; simp only [isLetter]; simp [*]; try omega)
theorem digit_any (c : Int) (w : World) :
    Calls Tryz.prog 81 #[.int .u8 c] w fun e w' => e = .returned (.bool (isDigit c)) ∧ w' = w := by
  go_enter Tryz.func81, Tryz.ntmps81
  go_wp2
  all_goals (go_ret; refine ⟨?_, rfl⟩; refine ret_b ?_; simp only [isDigit]; try simp [*]; try omega)
theorem wordy_any (c : Int) (w : World) :
    Calls Tryz.prog 40 #[.int .u8 c] w fun e w' => e = .returned (.bool (isWordy c)) ∧ w' = w := by
  cases hl : isLetter c
  · go_enter Tryz.func40, Tryz.ntmps40
    go_wp2_with (first | (go_at_call 80; refine (letter_any _ _).mono ?_; rintro e w' ⟨rfl, rfl⟩) | (go_at_call 81; refine (digit_any _ _).mono ?_; rintro e w' ⟨rfl, rfl⟩))
    all_goals (go_ret; refine ⟨?_, rfl⟩; congr 2; simp [isWordy, hl])
  · go_enter Tryz.func40, Tryz.ntmps40
    go_wp2_with (first | (go_at_call 80; refine (letter_any _ _).mono ?_; rintro e w' ⟨rfl, rfl⟩) | (go_at_call 81; refine (digit_any _ _).mono ?_; rintro e w' ⟨rfl, rfl⟩))
    all_goals (go_ret; refine ⟨?_, rfl⟩; congr 2; simp [isWordy, hl])
theorem notlf_any (c : Int) (w : World) :
    Calls Tryz.prog 79 #[.int .u8 c] w fun e w' => e = .returned (.bool (notLf c)) ∧ w' = w := by
  go_enter Tryz.func79, Tryz.ntmps79
  go_wp2
  all_goals (go_ret; exact ⟨rfl, rfl⟩)
theorem blank_any (c : Int) (w : World) :
    Calls Tryz.prog 77 #[.int .u8 c] w fun e w' => e = .returned (.bool (isBlank c)) ∧ w' = w := by
  go_enter Tryz.func77, Tryz.ntmps77
  go_wp2
  all_goals (go_ret; refine ⟨ret_b ?_, rfl⟩; first | rfl | (simp only [isBlank]; simp [*]))
theorem run_gen (fn : Nat) (p : Int → Bool) (hc : ∀ args w, (callFunc fn args).run Tryz.prog w = .ok (.enter fn args) w)
    (hp : ∀ (c : Int) w, Calls Tryz.prog fn #[.int .u8 c] w fun e w' => e = .returned (.bool (p c)) ∧ w' = w) (s : List UInt8) (hs : s.length ≤ maxLen) (w : World) :
    Calls Tryz.prog 39 #[.string ⟨s.toArray⟩, .func (.func fn) #[] #[]] w fun e w' => e = .returned (.int .i64 (runLen p s)) ∧ w' = w := by
  unfold maxLen at hs
  have HP := Lib.hid hp
  clear hp
  go_enter Tryz.func39, Tryz.ntmps39
  go_wp2_with fail
  go_loop [8] (fun i => ∃ k : Nat, k ≤ s.length ∧ i = .int .i64 k ∧ Hid (runLen p s = k + runLen p (s.drop k))) (fun i => s.length - (intOf i).toNat)
  case atStart => exact ⟨0, Nat.zero_le _, rfl, show _ = _ by simp⟩
  case round =>
    obtain ⟨k, hk, rfl, hall⟩ := hrel
    by_cases hlt : k < s.length
    · cases hpk : p (s[k].toNat)
      · go_wp2_with ((refine (HP.out _ _).mono ?_); rintro e w' ⟨rfl, rfl⟩)
        go_ret
        exact ⟨by rw [hall.out, runLen_stop hlt hpk]; rfl, rfl⟩
      · go_wp2_with ((refine (HP.out _ _).mono ?_); rintro e w' ⟨rfl, rfl⟩)
        go_round
        case rel => exact ⟨k + 1, by omega, by go_num, show _ = _ by rw [hall.out, runLen_step hlt hpk]; omega⟩
        case measure => simp [intOf]; omega
    · go_wp2
      go_ret
      exact ⟨by rw [hall.out, List.drop_of_length_le (by omega)]; simp [runLen]; omega, rfl⟩
theorem run_blank (s : List UInt8) (hs : s.length ≤ maxLen) (w : World) :
    Calls Tryz.prog 39 #[.string ⟨s.toArray⟩, .func (.func 77) #[] #[]] w fun e w' => e = .returned (.int .i64 (runLen isBlank s)) ∧ w' = w :=
  run_gen 77 isBlank (fun _ _ => by kernel_rfl) blank_any s hs w
theorem run_notlf (s : List UInt8) (hs : s.length ≤ maxLen) (w : World) :
    Calls Tryz.prog 39 #[.string ⟨s.toArray⟩, .func (.func 79) #[] #[]] w fun e w' => e = .returned (.int .i64 (runLen notLf s)) ∧ w' = w :=
  run_gen 79 notLf (fun _ _ => by kernel_rfl) notlf_any s hs w
theorem run_digit (s : List UInt8) (hs : s.length ≤ maxLen) (w : World) :
    Calls Tryz.prog 39 #[.string ⟨s.toArray⟩, .func (.func 81) #[] #[]] w fun e w' => e = .returned (.int .i64 (runLen isDigit s)) ∧ w' = w :=
  run_gen 81 isDigit (fun _ _ => by kernel_rfl) digit_any s hs w
theorem run_wordy (s : List UInt8) (hs : s.length ≤ maxLen) (w : World) :
    Calls Tryz.prog 39 #[.string ⟨s.toArray⟩, .func (.func 40) #[] #[]] w fun e w' => e = .returned (.int .i64 (runLen isWordy s)) ∧ w' = w :=
  run_gen 40 isWordy (fun _ _ => by kernel_rfl) wordy_any s hs w
end Go.Proofs.YtplbfmcgddnkeaaGreatDoor
end
section
set_option maxHeartbeats 400000
namespace Go.Proofs.YtplbfmcgddnkeaaGreatDoor
open Go.RowKit
theorem hasPrefix_lite (s p : List UInt8) (w : World) (hs : s.length ≤ maxLen) :
    Calls Tryz.prog 129 #[.string ⟨s.toArray⟩, .string ⟨p.toArray⟩] w fun e w' => e = .returned (.bool (Lib.hasPrefix s p)) ∧ w' = w := by
  have hs := hs
  unfold maxLen at hs
  by_cases h : p.length ≤ s.length
  · go_enter Tryz.func129, Tryz.ntmps129
    go_wp2
    go_ret
    exact ⟨ret_b (by rw [← Lib.hasPrefix_of_take]; simp [h]), rfl⟩
  · go_enter Tryz.func129, Tryz.ntmps129
    go_wp2
    go_ret
    exact ⟨ret_b (by rw [← Lib.hasPrefix_of_take]; simp [h]), rfl⟩
theorem hasPrefix_any (s p : List UInt8) (w : World) (hs : s.length ≤ maxLen) :
    Calls Tryz.prog 78 #[.string ⟨s.toArray⟩, .string ⟨p.toArray⟩] w fun e w' => e = .returned (.bool (Lib.hasPrefix s p)) ∧ w' = w := by
  go_enter Tryz.func78, Tryz.ntmps78
  go_wp2_with (go_at_call 129; refine (hasPrefix_lite _ _ _ hs).mono ?_; rintro e w' ⟨rfl, rfl⟩)
  go_ret
  exact ⟨rfl, rfl⟩
theorem separated_any (s : List UInt8) (w : World) (hs : s.length ≤ 1000000000) :
    Calls Tryz.prog 38 #[.string ⟨s.toArray⟩] w fun e w' => e = .returned (.int .i64 (skip false s)) ∧ w' = w := by
  go_enter Tryz.func38, Tryz.ntmps38
  go_wp2_with fail
  go_loop [3] (fun i => ∃ k : Nat, k ≤ s.length ∧ i = .int .i64 k ∧ Hid (skip false s = k + skip false (s.drop k))) (fun i => s.length - (intOf i).toNat)
  case atStart => exact ⟨0, Nat.zero_le _, rfl, show _ = _ by simp⟩
  case round =>
    obtain ⟨k, hk, rfl, hall⟩ := hrel
    have hl := Lib.hid (show (s.drop k).length ≤ maxLen by simp [maxLen]; omega)
    have b0 := runLen_le isBlank (s.drop k)
    have b1 := runLen_le notLf (s.drop k)
    simp only [List.length_drop] at b0 b1
    by_cases h0 : runLen isBlank (s.drop k) = 0
    · cases h1 : Lib.hasPrefix (s.drop k) [35]
      · have e1 := Lib.hid (skip_zero h1 h0)
        have h1 := Lib.hid h1
        (go_wp2_with fail; (with_reducible refine (run_blank _ hl.out _).mono ?_); rintro e w' ⟨rfl, rfl⟩)
        rw [h0]; clear h0
        (go_wp2_with fail; (with_reducible refine (hasPrefix_any _ _ _ hl.out).mono ?_); rintro e w' ⟨rfl, rfl⟩)
        rw [h1.out]
        go_wp2_with fail
        go_ret
        exact ⟨ret_i (by rw [hall.out, e1.out]; rfl), rfl⟩
      · have e1 := Lib.hid (skip_hash h1)
        have hpos := runLen_hash h1
        have hb : ((runLen notLf (List.drop k s) : Int) == 0) = false := by rw [beq_eq_false_iff_ne]; omega
        have h1 := Lib.hid h1
        (go_wp2_with fail; (with_reducible refine (run_blank _ hl.out _).mono ?_); rintro e w' ⟨rfl, rfl⟩)
        rw [h0]; clear h0
        (go_wp2_with fail; (with_reducible refine (hasPrefix_any _ _ _ hl.out).mono ?_); rintro e w' ⟨rfl, rfl⟩)
        rw [h1.out]
        (go_wp2_with fail; (with_reducible refine (run_notlf _ hl.out _).mono ?_); rintro e w' ⟨rfl, rfl⟩)
        go_wp2_with fail
        go_round
        case rel => exact ⟨k + runLen notLf (s.drop k), by omega, by go_num, show _ = _ by rw [hall.out, e1.out, List.drop_drop]; omega⟩
        case measure => simp [intOf]; omega
    · have e1 := Lib.hid (skip_blank (s.drop k))
      have hpos : 0 < runLen isBlank (List.drop k s) := by omega
      have h0 : ((runLen isBlank (List.drop k s) : Int) == 0) = false := by simpa using h0
      (go_wp2_with fail; (with_reducible refine (run_blank _ hl.out _).mono ?_); rintro e w' ⟨rfl, rfl⟩)
      go_wp2_with fail
      go_round
      case rel => exact ⟨k + runLen isBlank (s.drop k), by omega, by go_num, show _ = _ by rw [hall.out, e1.out, List.drop_drop]; omega⟩
      case measure => simp [intOf]; omega
end Go.Proofs.YtplbfmcgddnkeaaGreatDoor
end
section
set_option maxHeartbeats 400000
namespace Go.Proofs.YtplbfmcgddnkeaaGreatDoor
open Go.RowKit
def signAt (k : Nat) : List UInt8 := signTexts.getD k []
def signVals : Array Value := (signTexts.map fun l => Value.string ⟨l.toArray⟩).toArray
def SignsAt (w : World) : Prop := ∃ t fr, w.heap[0]? = some (.cells signVals t fr)
theorem signs_index (k : Nat) (h : k < 13) : ∀ w, (Instr.index 102 (.agg signVals) (.int .i64 (k : Int))).run Tryz.prog w = .ok (.string ⟨(signAt k).toArray⟩) w := by
  intro w
  match k, h with
  | 0, _ => (show _ = _; kernel_rfl)
  | 1, _ => (show _ = _; kernel_rfl)
  | 2, _ => (show _ = _; kernel_rfl)
  | 3, _ => (show _ = _; kernel_rfl)
  | 4, _ => (show _ = _; kernel_rfl)
  | 5, _ => (show _ = _; kernel_rfl)
  | 6, _ => (show _ = _; kernel_rfl)
  | 7, _ => (show _ = _; kernel_rfl)
  | 8, _ => (show _ = _; kernel_rfl)
  | 9, _ => (show _ = _; kernel_rfl)
  | 10, _ => (show _ = _; kernel_rfl)
  | 11, _ => (show _ = _; kernel_rfl)
  | 12, _ => (show _ = _; kernel_rfl)
theorem firstPrefix_step {k : Nat} (h : k < 13) (s : List UInt8) : firstPrefix (signTexts.drop k) s = if Lib.hasPrefix s (signAt k) then signAt k else firstPrefix (signTexts.drop (k + 1)) s := by
  have hl : k < signTexts.length := h
  rw [List.drop_eq_getElem_cons hl, firstPrefix]; simp [signAt, List.getD, hl]
theorem sign_any (s : List UInt8) (w : World) (hs : s.length ≤ maxLen) (hg : SignsAt w) :
    Calls Tryz.prog 42 #[.string ⟨s.toArray⟩] w fun e w' => e = .returned (.string ⟨(firstPrefix signTexts s).toArray⟩) ∧ w' = w := by
  have hs := Lib.hid hs
  obtain ⟨t, fr, hg⟩ := hg
  have HG := Lib.hid hg
  clear hg
  go_enter Tryz.func42, Tryz.ntmps42
  go_wp2_with (refine wpList_load_row rfl 102 _ rfl 0 rfl t _ fr _ HG.out Tryz.underlying102 rfl (by kernel_rfl) ?_)
  go_loop [6] (fun i => ∃ k : Nat, k ≤ 13 ∧ i = .int .i64 k ∧ Hid (firstPrefix signTexts s = firstPrefix (signTexts.drop k) s)) (fun i => 13 - (intOf i).toNat)
  case atStart => exact ⟨0, Nat.zero_le _, rfl, show _ = _ from rfl⟩
  case round =>
    obtain ⟨k, hk, rfl, hall⟩ := hrel
    by_cases hlt : k < 13
    · have hidx := signs_index k hlt
      have hst := Lib.hid (firstPrefix_step hlt s)
      cases hp : Lib.hasPrefix s (signAt k)
      · have hp := Lib.hid hp
        (go_wp2_with fail; (with_reducible refine (hasPrefix_any _ _ _ hs.out).mono ?_); rintro e w' ⟨rfl, rfl⟩)
        rw [hp.out]
        go_wp2_with fail
        go_round
        case rel => exact ⟨k + 1, by omega, by go_num, show _ = _ by rw [hall.out, hst.out, hp.out]; rfl⟩
        case measure => simp [intOf]; omega
      · have hp := Lib.hid hp
        (go_wp2_with fail; (with_reducible refine (hasPrefix_any _ _ _ hs.out).mono ?_); rintro e w' ⟨rfl, rfl⟩)
        rw [hp.out]
        go_wp2_with fail
        go_ret
        exact ⟨ret_s (by rw [hall.out, hst.out, hp.out]; rfl), rfl⟩
    · go_wp2_with fail
      go_ret
      have : k = 13 := by omega
      subst this
      exact ⟨ret_s (by rw [hall.out]; rfl), rfl⟩
end Go.Proofs.YtplbfmcgddnkeaaGreatDoor
end
section
namespace Go.Proofs
open Go.Shelf
def Tryz.lays161_ren : Go.Shelf.Ren := ⟨fun | 161 => 130 | 231 => 165 | 227 => 166 | 233 => 167 | 235 => 168 | 228 => 192 | 197 => 193 | 151 => 194 | 260 => 208 | 152 => 209 | 137 => 217 | 119 => 218 | 224 => 219 | 225 => 220 | 217 => 222 | 266 => 225 | n => n, fun | 9 => 9 | 4 => 4 | 3 => 3 | 5 => 5 | 117 => 145 | 116 => 144 | 0 => 0 | 124 => 148 | 105 => 165 | 21 => 21 | 119 => 184 | 46 => 175 | 139 => 194 | 138 => 193 | n => n, fun | 3 => 5 | 4 => 6 | n => n⟩
theorem Tryz.lays161 : Go.Proofs.Lays.n161 Tryz.prog Tryz.lays161_ren := {
  mixed := by kernel_rfl
  f119 := Tryz.func218.trans (congrArg some (by kernel_rfl))
  f137 := Tryz.func217.trans (congrArg some (by kernel_rfl))
  f151 := Tryz.func194.trans (congrArg some (by kernel_rfl))
  f152 := Tryz.func209.trans (congrArg some (by kernel_rfl))
  f161 := Tryz.func130.trans (congrArg some (by kernel_rfl))
  f197 := Tryz.func193.trans (congrArg some (by kernel_rfl))
  f217 := Tryz.func222.trans (congrArg some (by kernel_rfl))
  f224 := Tryz.func219.trans (congrArg some (by kernel_rfl))
  f225 := Tryz.func220.trans (congrArg some (by kernel_rfl))
  f227 := Tryz.func166.trans (congrArg some (by kernel_rfl))
  f228 := Tryz.func192.trans (congrArg some (by kernel_rfl))
  f231 := Tryz.func165.trans (congrArg some (by kernel_rfl))
  f233 := Tryz.func167.trans (congrArg some (by kernel_rfl))
  f235 := Tryz.func168.trans (congrArg some (by kernel_rfl))
  f260 := Tryz.func208.trans (congrArg some (by kernel_rfl))
  f266 := Tryz.func225.trans (congrArg some (by kernel_rfl))
  t0 := Tryz.underlying0
  a0 := Tryz.isAgg0
  z0 := Tryz.sizeOf0
  v0 := Tryz.zeroValue0
  t3 := Tryz.underlying3
  a3 := Tryz.isAgg3
  z3 := Tryz.sizeOf3
  v3 := Tryz.zeroValue3
  t4 := Tryz.underlying4
  a4 := Tryz.isAgg4
  z4 := Tryz.sizeOf4
  v4 := Tryz.zeroValue4
  t5 := Tryz.underlying5
  a5 := Tryz.isAgg5
  z5 := Tryz.sizeOf5
  v5 := Tryz.zeroValue5
  t9 := Tryz.underlying9
  a9 := Tryz.isAgg9
  z9 := Tryz.sizeOf9
  v9 := Tryz.zeroValue9
  t21 := Tryz.underlying21
  a21 := Tryz.isAgg21
  z21 := Tryz.sizeOf21
  v21 := Tryz.zeroValue21
  t46 := Tryz.underlying175
  a46 := Tryz.isAgg175
  z46 := Tryz.sizeOf175
  v46 := Tryz.zeroValue175
  t105 := Tryz.underlying165
  a105 := Tryz.isAgg165
  z105 := Tryz.sizeOf165
  v105 := Tryz.zeroValue165
  t116 := Tryz.underlying144
  a116 := Tryz.isAgg144
  z116 := Tryz.sizeOf144
  t117 := Tryz.underlying145
  a117 := Tryz.isAgg145
  z117 := Tryz.sizeOf145
  v117 := Tryz.zeroValue145
  t119 := Tryz.underlying184
  a119 := Tryz.isAgg184
  z119 := Tryz.sizeOf184
  t124 := Tryz.underlying148
  a124 := Tryz.isAgg148
  z124 := Tryz.sizeOf148
  v124 := Tryz.zeroValue148
  t138 := Tryz.underlying193
  a138 := Tryz.isAgg193
  z138 := Tryz.sizeOf193
  v138 := Tryz.zeroValue193
  t139 := Tryz.underlying194
  a139 := Tryz.isAgg194
  z139 := Tryz.sizeOf194
  v139 := Tryz.zeroValue194
  g3 := by kernel_rfl
  g4 := by kernel_rfl }
open Go.RowKit in
theorem Tryz.strings_TrimLeft_one (s : ByteArray) (c : UInt8) (hc : c.toNat < 128) (w : World) :
    Calls Tryz.prog 130 #[.string s, .string ⟨#[c]⟩] w fun e w' => e = .returned (.string ⟨(Lib.trimLeftB s.data.toList c).toArray⟩) ∧ w' = w := Any.strings_TrimLeft_one Tryz.lays161 s c hc w
def Tryz.lays172_ren : Go.Shelf.Ren := ⟨fun | 172 => 122 | 244 => 158 | 245 => 159 | 247 => 183 | 279 => 184 | 280 => 185 | 281 => 186 | 282 => 187 | 287 => 204 | 316 => 205 | 171 => 54 | 205 => 206 | 321 => 215 | 322 => 216 | 243 => 100 | 246 => 146 | 283 => 177 | 284 => 178 | 285 => 179 | 286 => 180 | 129 => 199 | 317 => 198 | 318 => 200 | 319 => 201 | 320 => 202 | 337 => 213 | 338 => 214 | n => n, fun | 9 => 9 | 3 => 3 | 75 => 113 | 76 => 114 | 4 => 4 | 5 => 5 | 167 => 158 | 37 => 73 | 0 => 0 | 85 => 159 | 2 => 2 | 168 => 161 | 53 => 153 | 175 => 177 | 46 => 175 | 210 => 180 | 127 => 125 | 145 => 191 | 143 => 189 | 21 => 21 | 171 => 152 | 173 => 156 | 212 => 172 | 51 => 173 | 20 => 20 | 213 => 174 | 232 => 202 | 233 => 203 | 80 => 86 | n => n, fun | 15 => 2 | 16 => 3 | 17 => 1 | 18 => 8 | 19 => 9 | n => n⟩
theorem Tryz.lays172 : Go.Proofs.Lays.n172 Tryz.prog Tryz.lays172_ren := {
  mixed := by kernel_rfl
  f129 := Tryz.func199.trans (congrArg some (by kernel_rfl))
  f171 := Tryz.func54.trans (congrArg some (by kernel_rfl))
  f172 := Tryz.func122.trans (congrArg some (by kernel_rfl))
  f205 := Tryz.func206.trans (congrArg some (by kernel_rfl))
  f243 := Tryz.func100.trans (congrArg some (by kernel_rfl))
  f244 := Tryz.func158.trans (congrArg some (by kernel_rfl))
  f245 := Tryz.func159.trans (congrArg some (by kernel_rfl))
  f246 := Tryz.func146.trans (congrArg some (by kernel_rfl))
  f247 := Tryz.func183.trans (congrArg some (by kernel_rfl))
  f279 := Tryz.func184.trans (congrArg some (by kernel_rfl))
  f280 := Tryz.func185.trans (congrArg some (by kernel_rfl))
  f281 := Tryz.func186.trans (congrArg some (by kernel_rfl))
  f282 := Tryz.func187.trans (congrArg some (by kernel_rfl))
  f283 := Tryz.func177.trans (congrArg some (by kernel_rfl))
  f284 := Tryz.func178.trans (congrArg some (by kernel_rfl))
  f285 := Tryz.func179.trans (congrArg some (by kernel_rfl))
  f286 := Tryz.func180.trans (congrArg some (by kernel_rfl))
  f287 := Tryz.func204.trans (congrArg some (by kernel_rfl))
  f316 := Tryz.func205.trans (congrArg some (by kernel_rfl))
  f317 := Tryz.func198.trans (congrArg some (by kernel_rfl))
  f318 := Tryz.func200.trans (congrArg some (by kernel_rfl))
  f319 := Tryz.func201.trans (congrArg some (by kernel_rfl))
  f320 := Tryz.func202.trans (congrArg some (by kernel_rfl))
  f321 := Tryz.func215.trans (congrArg some (by kernel_rfl))
  f322 := Tryz.func216.trans (congrArg some (by kernel_rfl))
  f337 := Tryz.func213.trans (congrArg some (by kernel_rfl))
  f338 := Tryz.func214.trans (congrArg some (by kernel_rfl))
  t0 := Tryz.underlying0
  a0 := Tryz.isAgg0
  z0 := Tryz.sizeOf0
  v0 := Tryz.zeroValue0
  t2 := Tryz.underlying2
  a2 := Tryz.isAgg2
  z2 := Tryz.sizeOf2
  v2 := Tryz.zeroValue2
  t3 := Tryz.underlying3
  a3 := Tryz.isAgg3
  z3 := Tryz.sizeOf3
  v3 := Tryz.zeroValue3
  t4 := Tryz.underlying4
  a4 := Tryz.isAgg4
  z4 := Tryz.sizeOf4
  v4 := Tryz.zeroValue4
  t5 := Tryz.underlying5
  a5 := Tryz.isAgg5
  z5 := Tryz.sizeOf5
  v5 := Tryz.zeroValue5
  t9 := Tryz.underlying9
  a9 := Tryz.isAgg9
  z9 := Tryz.sizeOf9
  v9 := Tryz.zeroValue9
  t20 := Tryz.underlying20
  a20 := Tryz.isAgg20
  z20 := Tryz.sizeOf20
  v20 := Tryz.zeroValue20
  t21 := Tryz.underlying21
  a21 := Tryz.isAgg21
  z21 := Tryz.sizeOf21
  v21 := Tryz.zeroValue21
  t37 := Tryz.underlying73
  a37 := Tryz.isAgg73
  z37 := Tryz.sizeOf73
  v37 := Tryz.zeroValue73
  t46 := Tryz.underlying175
  a46 := Tryz.isAgg175
  z46 := Tryz.sizeOf175
  v46 := Tryz.zeroValue175
  t51 := Tryz.underlying173
  a51 := Tryz.isAgg173
  z51 := Tryz.sizeOf173
  v51 := Tryz.zeroValue173
  t53 := Tryz.underlying153
  a53 := Tryz.isAgg153
  z53 := Tryz.sizeOf153
  v53 := Tryz.zeroValue153
  t75 := Tryz.underlying113
  a75 := Tryz.isAgg113
  z75 := Tryz.sizeOf113
  v75 := Tryz.zeroValue113
  t76 := Tryz.underlying114
  a76 := Tryz.isAgg114
  z76 := Tryz.sizeOf114
  v76 := Tryz.zeroValue114
  t85 := Tryz.underlying159
  a85 := Tryz.isAgg159
  z85 := Tryz.sizeOf159
  v85 := Tryz.zeroValue159
  t127 := Tryz.underlying125
  a127 := Tryz.isAgg125
  z127 := Tryz.sizeOf125
  v127 := Tryz.zeroValue125
  t143 := Tryz.underlying189
  a143 := Tryz.isAgg189
  z143 := Tryz.sizeOf189
  v143 := Tryz.zeroValue189
  t145 := Tryz.underlying191
  a145 := Tryz.isAgg191
  z145 := Tryz.sizeOf191
  v145 := Tryz.zeroValue191
  t167 := Tryz.underlying158
  a167 := Tryz.isAgg158
  z167 := Tryz.sizeOf158
  v167 := Tryz.zeroValue158
  t168 := Tryz.underlying161
  a168 := Tryz.isAgg161
  z168 := Tryz.sizeOf161
  v168 := Tryz.zeroValue161
  t171 := Tryz.underlying152
  a171 := Tryz.isAgg152
  z171 := Tryz.sizeOf152
  v171 := Tryz.zeroValue152
  t173 := Tryz.underlying156
  a173 := Tryz.isAgg156
  z173 := Tryz.sizeOf156
  v173 := Tryz.zeroValue156
  t175 := Tryz.underlying177
  a175 := Tryz.isAgg177
  z175 := Tryz.sizeOf177
  v175 := Tryz.zeroValue177
  t210 := Tryz.underlying180
  a210 := Tryz.isAgg180
  z210 := Tryz.sizeOf180
  v210 := Tryz.zeroValue180
  t212 := Tryz.underlying172
  a212 := Tryz.isAgg172
  z212 := Tryz.sizeOf172
  v212 := Tryz.zeroValue172
  t213 := Tryz.underlying174
  a213 := Tryz.isAgg174
  z213 := Tryz.sizeOf174
  t232 := Tryz.underlying202
  a232 := Tryz.isAgg202
  z232 := Tryz.sizeOf202
  v232 := Tryz.zeroValue202
  t233 := Tryz.underlying203
  a233 := Tryz.isAgg203
  z233 := Tryz.sizeOf203
  v233 := Tryz.zeroValue203
  g15 := by kernel_rfl
  g16 := by kernel_rfl
  g17 := by kernel_rfl
  g18 := by kernel_rfl
  g19 := by kernel_rfl }
open Go.RowKit in
theorem Tryz.strconv_Atoi (s : ByteArray) (n : Int) (hl : s.size ≤ 18) (h : Lib.atoi s.data.toList = some n) (w : World) :
    Calls Tryz.prog 122 #[.string s] w fun e w' => e = .returned (.tuple #[.int .i64 n, .nilIface]) ∧ ∃ t, w' = Lib.bytesWorld w 5 t := Any.strconv_Atoi Tryz.lays172 s n hl h w
def Tryz.laysM171_ren : Go.Shelf.Ren := ⟨fun | 171 => 54 | 243 => 100 | 246 => 146 | 283 => 177 | 284 => 178 | 285 => 179 | 286 => 180 | 129 => 199 | 317 => 198 | 318 => 200 | 319 => 201 | 320 => 202 | 337 => 213 | 338 => 214 | n => n, fun | 3 => 3 | 9 => 9 | 2 => 2 | 4 => 4 | 171 => 152 | 0 => 0 | 53 => 153 | 37 => 73 | 5 => 5 | 173 => 156 | 212 => 172 | 51 => 173 | 20 => 20 | 213 => 174 | 46 => 175 | 232 => 202 | 233 => 203 | n => n, fun | 17 => 1 | 18 => 8 | 19 => 9 | n => n⟩
theorem Tryz.laysM171 : Go.Proofs.LaysM.n171 Tryz.prog Tryz.laysM171_ren := {
  mixed := by kernel_rfl
  f129 := Tryz.func199.trans (congrArg some (by kernel_rfl))
  f171 := Tryz.func54.trans (congrArg some (by kernel_rfl))
  f243 := Tryz.func100.trans (congrArg some (by kernel_rfl))
  f246 := Tryz.func146.trans (congrArg some (by kernel_rfl))
  f283 := Tryz.func177.trans (congrArg some (by kernel_rfl))
  f284 := Tryz.func178.trans (congrArg some (by kernel_rfl))
  f285 := Tryz.func179.trans (congrArg some (by kernel_rfl))
  f286 := Tryz.func180.trans (congrArg some (by kernel_rfl))
  f317 := Tryz.func198.trans (congrArg some (by kernel_rfl))
  f318 := Tryz.func200.trans (congrArg some (by kernel_rfl))
  f319 := Tryz.func201.trans (congrArg some (by kernel_rfl))
  f320 := Tryz.func202.trans (congrArg some (by kernel_rfl))
  f337 := Tryz.func213.trans (congrArg some (by kernel_rfl))
  f338 := Tryz.func214.trans (congrArg some (by kernel_rfl))
  t0 := Tryz.underlying0
  a0 := Tryz.isAgg0
  z0 := Tryz.sizeOf0
  v0 := Tryz.zeroValue0
  t2 := Tryz.underlying2
  a2 := Tryz.isAgg2
  z2 := Tryz.sizeOf2
  v2 := Tryz.zeroValue2
  t3 := Tryz.underlying3
  a3 := Tryz.isAgg3
  z3 := Tryz.sizeOf3
  v3 := Tryz.zeroValue3
  t4 := Tryz.underlying4
  a4 := Tryz.isAgg4
  z4 := Tryz.sizeOf4
  v4 := Tryz.zeroValue4
  t5 := Tryz.underlying5
  a5 := Tryz.isAgg5
  z5 := Tryz.sizeOf5
  v5 := Tryz.zeroValue5
  t9 := Tryz.underlying9
  a9 := Tryz.isAgg9
  z9 := Tryz.sizeOf9
  v9 := Tryz.zeroValue9
  t20 := Tryz.underlying20
  a20 := Tryz.isAgg20
  z20 := Tryz.sizeOf20
  v20 := Tryz.zeroValue20
  t37 := Tryz.underlying73
  a37 := Tryz.isAgg73
  z37 := Tryz.sizeOf73
  v37 := Tryz.zeroValue73
  t46 := Tryz.underlying175
  a46 := Tryz.isAgg175
  z46 := Tryz.sizeOf175
  v46 := Tryz.zeroValue175
  t51 := Tryz.underlying173
  a51 := Tryz.isAgg173
  z51 := Tryz.sizeOf173
  v51 := Tryz.zeroValue173
  t53 := Tryz.underlying153
  a53 := Tryz.isAgg153
  z53 := Tryz.sizeOf153
  v53 := Tryz.zeroValue153
  t171 := Tryz.underlying152
  a171 := Tryz.isAgg152
  z171 := Tryz.sizeOf152
  v171 := Tryz.zeroValue152
  t173 := Tryz.underlying156
  a173 := Tryz.isAgg156
  z173 := Tryz.sizeOf156
  v173 := Tryz.zeroValue156
  t212 := Tryz.underlying172
  a212 := Tryz.isAgg172
  z212 := Tryz.sizeOf172
  v212 := Tryz.zeroValue172
  t213 := Tryz.underlying174
  a213 := Tryz.isAgg174
  z213 := Tryz.sizeOf174
  t232 := Tryz.underlying202
  a232 := Tryz.isAgg202
  z232 := Tryz.sizeOf202
  v232 := Tryz.zeroValue202
  t233 := Tryz.underlying203
  a233 := Tryz.isAgg203
  z233 := Tryz.sizeOf203
  v233 := Tryz.zeroValue203
  g17 := by kernel_rfl
  g18 := by kernel_rfl
  g19 := by kernel_rfl
  i0 := by kernel_rfl
  i2 := by kernel_rfl
  i3 := by kernel_rfl
  i4 := by kernel_rfl
  i5 := by kernel_rfl
  i9 := by kernel_rfl
  i20 := by kernel_rfl
  i37 := by kernel_rfl
  i46 := by kernel_rfl
  i51 := by kernel_rfl
  i53 := by kernel_rfl
  i171 := by kernel_rfl
  i173 := by kernel_rfl
  i212 := by kernel_rfl
  i232 := by kernel_rfl
  i233 := by kernel_rfl
  m17 := by kernel_rfl
  m18 := by kernel_rfl
  m19 := by kernel_rfl }
open Go.RowKit Go.Sort Go.Lib in
theorem Tryz.strconv_Itoa (n : Int) (h0 : -9223372036854775808 ≤ n) (h1 : n ≤ 9223372036854775807) (w : World) (htab : Lib.TabIs Tryz.prog w "internal/strconv.uint64pow10" .u64 Lib.pow10Tab) :
    Calls Tryz.prog 54 #[.int .i64 n] w fun e w' => e = .returned (.string ⟨(Lib.itoa n).toArray⟩) ∧ ∃ k os, w' = grow (w.drewN k) os := Any.strconv_Itoa Tryz.laysM171 n h0 h1 w htab
def Tryz.laysC172_ren : Go.Shelf.Ren := ⟨fun | 172 => 122 | 244 => 158 | 245 => 159 | 247 => 183 | 279 => 184 | 280 => 185 | 281 => 186 | 282 => 187 | 287 => 204 | 316 => 205 | 171 => 54 | 205 => 206 | 321 => 215 | 322 => 216 | 243 => 100 | 246 => 146 | 283 => 177 | 284 => 178 | 285 => 179 | 286 => 180 | 129 => 199 | 317 => 198 | 318 => 200 | 319 => 201 | 320 => 202 | 337 => 213 | 338 => 214 | n => n, fun | 9 => 9 | 3 => 3 | 75 => 113 | 76 => 114 | 4 => 4 | 5 => 5 | 167 => 158 | 37 => 73 | 0 => 0 | 85 => 159 | 2 => 2 | 168 => 161 | 53 => 153 | 175 => 177 | 46 => 175 | 210 => 180 | 127 => 125 | 145 => 191 | 143 => 189 | 21 => 21 | 171 => 152 | 173 => 156 | 212 => 172 | 51 => 173 | 20 => 20 | 213 => 174 | 232 => 202 | 233 => 203 | 80 => 86 | n => n, fun | 15 => 2 | 16 => 3 | 17 => 1 | 18 => 8 | 19 => 9 | n => n⟩
theorem Tryz.laysC172 : Go.Proofs.LaysC.n172 Tryz.prog Tryz.laysC172_ren := {
  mixed := by kernel_rfl
  f129 := Tryz.func199.trans (congrArg some (by kernel_rfl))
  f171 := Tryz.func54.trans (congrArg some (by kernel_rfl))
  f172 := Tryz.func122.trans (congrArg some (by kernel_rfl))
  f205 := Tryz.func206.trans (congrArg some (by kernel_rfl))
  f243 := Tryz.func100.trans (congrArg some (by kernel_rfl))
  f244 := Tryz.func158.trans (congrArg some (by kernel_rfl))
  f245 := Tryz.func159.trans (congrArg some (by kernel_rfl))
  f246 := Tryz.func146.trans (congrArg some (by kernel_rfl))
  f247 := Tryz.func183.trans (congrArg some (by kernel_rfl))
  f279 := Tryz.func184.trans (congrArg some (by kernel_rfl))
  f280 := Tryz.func185.trans (congrArg some (by kernel_rfl))
  f281 := Tryz.func186.trans (congrArg some (by kernel_rfl))
  f282 := Tryz.func187.trans (congrArg some (by kernel_rfl))
  f283 := Tryz.func177.trans (congrArg some (by kernel_rfl))
  f284 := Tryz.func178.trans (congrArg some (by kernel_rfl))
  f285 := Tryz.func179.trans (congrArg some (by kernel_rfl))
  f286 := Tryz.func180.trans (congrArg some (by kernel_rfl))
  f287 := Tryz.func204.trans (congrArg some (by kernel_rfl))
  f316 := Tryz.func205.trans (congrArg some (by kernel_rfl))
  f317 := Tryz.func198.trans (congrArg some (by kernel_rfl))
  f318 := Tryz.func200.trans (congrArg some (by kernel_rfl))
  f319 := Tryz.func201.trans (congrArg some (by kernel_rfl))
  f320 := Tryz.func202.trans (congrArg some (by kernel_rfl))
  f321 := Tryz.func215.trans (congrArg some (by kernel_rfl))
  f322 := Tryz.func216.trans (congrArg some (by kernel_rfl))
  f337 := Tryz.func213.trans (congrArg some (by kernel_rfl))
  f338 := Tryz.func214.trans (congrArg some (by kernel_rfl))
  t0 := Tryz.underlying0
  a0 := Tryz.isAgg0
  z0 := Tryz.sizeOf0
  v0 := Tryz.zeroValue0
  t2 := Tryz.underlying2
  a2 := Tryz.isAgg2
  z2 := Tryz.sizeOf2
  v2 := Tryz.zeroValue2
  t3 := Tryz.underlying3
  a3 := Tryz.isAgg3
  z3 := Tryz.sizeOf3
  v3 := Tryz.zeroValue3
  t4 := Tryz.underlying4
  a4 := Tryz.isAgg4
  z4 := Tryz.sizeOf4
  v4 := Tryz.zeroValue4
  t5 := Tryz.underlying5
  a5 := Tryz.isAgg5
  z5 := Tryz.sizeOf5
  v5 := Tryz.zeroValue5
  t9 := Tryz.underlying9
  a9 := Tryz.isAgg9
  z9 := Tryz.sizeOf9
  v9 := Tryz.zeroValue9
  t20 := Tryz.underlying20
  a20 := Tryz.isAgg20
  z20 := Tryz.sizeOf20
  v20 := Tryz.zeroValue20
  t21 := Tryz.underlying21
  a21 := Tryz.isAgg21
  z21 := Tryz.sizeOf21
  v21 := Tryz.zeroValue21
  t37 := Tryz.underlying73
  a37 := Tryz.isAgg73
  z37 := Tryz.sizeOf73
  v37 := Tryz.zeroValue73
  t46 := Tryz.underlying175
  a46 := Tryz.isAgg175
  z46 := Tryz.sizeOf175
  v46 := Tryz.zeroValue175
  t51 := Tryz.underlying173
  a51 := Tryz.isAgg173
  z51 := Tryz.sizeOf173
  v51 := Tryz.zeroValue173
  t53 := Tryz.underlying153
  a53 := Tryz.isAgg153
  z53 := Tryz.sizeOf153
  v53 := Tryz.zeroValue153
  t75 := Tryz.underlying113
  a75 := Tryz.isAgg113
  z75 := Tryz.sizeOf113
  v75 := Tryz.zeroValue113
  t76 := Tryz.underlying114
  a76 := Tryz.isAgg114
  z76 := Tryz.sizeOf114
  v76 := Tryz.zeroValue114
  t85 := Tryz.underlying159
  a85 := Tryz.isAgg159
  z85 := Tryz.sizeOf159
  v85 := Tryz.zeroValue159
  t127 := Tryz.underlying125
  a127 := Tryz.isAgg125
  z127 := Tryz.sizeOf125
  v127 := Tryz.zeroValue125
  t143 := Tryz.underlying189
  a143 := Tryz.isAgg189
  z143 := Tryz.sizeOf189
  v143 := Tryz.zeroValue189
  t145 := Tryz.underlying191
  a145 := Tryz.isAgg191
  z145 := Tryz.sizeOf191
  v145 := Tryz.zeroValue191
  t167 := Tryz.underlying158
  a167 := Tryz.isAgg158
  z167 := Tryz.sizeOf158
  v167 := Tryz.zeroValue158
  t168 := Tryz.underlying161
  a168 := Tryz.isAgg161
  z168 := Tryz.sizeOf161
  v168 := Tryz.zeroValue161
  t171 := Tryz.underlying152
  a171 := Tryz.isAgg152
  z171 := Tryz.sizeOf152
  v171 := Tryz.zeroValue152
  t173 := Tryz.underlying156
  a173 := Tryz.isAgg156
  z173 := Tryz.sizeOf156
  v173 := Tryz.zeroValue156
  t175 := Tryz.underlying177
  a175 := Tryz.isAgg177
  z175 := Tryz.sizeOf177
  v175 := Tryz.zeroValue177
  t210 := Tryz.underlying180
  a210 := Tryz.isAgg180
  z210 := Tryz.sizeOf180
  v210 := Tryz.zeroValue180
  t212 := Tryz.underlying172
  a212 := Tryz.isAgg172
  z212 := Tryz.sizeOf172
  v212 := Tryz.zeroValue172
  t213 := Tryz.underlying174
  a213 := Tryz.isAgg174
  z213 := Tryz.sizeOf174
  t232 := Tryz.underlying202
  a232 := Tryz.isAgg202
  z232 := Tryz.sizeOf202
  v232 := Tryz.zeroValue202
  t233 := Tryz.underlying203
  a233 := Tryz.isAgg203
  z233 := Tryz.sizeOf203
  v233 := Tryz.zeroValue203
  g15 := by kernel_rfl
  g16 := by kernel_rfl
  g17 := by kernel_rfl
  g18 := by kernel_rfl
  g19 := by kernel_rfl
  t80 := Tryz.underlying86
  a80 := Tryz.isAgg86
  z80 := Tryz.sizeOf86
  v80 := Tryz.zeroValue86
  i0 := by kernel_rfl
  i2 := by kernel_rfl
  i3 := by kernel_rfl
  i4 := by kernel_rfl
  i5 := by kernel_rfl
  i9 := by kernel_rfl
  i20 := by kernel_rfl
  i21 := by kernel_rfl
  i37 := by kernel_rfl
  i46 := by kernel_rfl
  i51 := by kernel_rfl
  i53 := by kernel_rfl
  i75 := by kernel_rfl
  i76 := by kernel_rfl
  i80 := by kernel_rfl
  i85 := by kernel_rfl
  i127 := by kernel_rfl
  i143 := by kernel_rfl
  i145 := by kernel_rfl
  i167 := by kernel_rfl
  i168 := by kernel_rfl
  i171 := by kernel_rfl
  i173 := by kernel_rfl
  i175 := by kernel_rfl
  i210 := by kernel_rfl
  i212 := by kernel_rfl
  i232 := by kernel_rfl
  i233 := by kernel_rfl
  m15 := by kernel_rfl
  m16 := by kernel_rfl
  m17 := by kernel_rfl
  m18 := by kernel_rfl
  m19 := by kernel_rfl
  c0 := by kernel_rfl
  c2 := by kernel_rfl
  c3 := by kernel_rfl
  c4 := by kernel_rfl
  c5 := by kernel_rfl
  c9 := by kernel_rfl
  c20 := by kernel_rfl
  c21 := by kernel_rfl
  c37 := by kernel_rfl
  c46 := by kernel_rfl
  c51 := by kernel_rfl
  c53 := by kernel_rfl
  c75 := by kernel_rfl
  c76 := by kernel_rfl
  c80 := by kernel_rfl
  c85 := by kernel_rfl
  c127 := by kernel_rfl
  c143 := by kernel_rfl
  c145 := by kernel_rfl
  c167 := by kernel_rfl
  c168 := by kernel_rfl
  c171 := by kernel_rfl
  c173 := by kernel_rfl
  c175 := by kernel_rfl
  c210 := by kernel_rfl
  c212 := by kernel_rfl
  c213 := by kernel_rfl
  c232 := by kernel_rfl
  c233 := by kernel_rfl }
open Go.RowKit in
theorem Tryz.strconv_Atoi_ok (s : ByteArray) (hmax : s.size ≤ 9223372036854775806) (v : Int) (h : Lib.atoiAll s.data.toList = .ok v) (w : World) :
    Calls Tryz.prog 122 #[.string s] w fun e w' => e = .returned (.tuple #[.int .i64 v, .nilIface]) ∧ (w' = w ∨ ∃ t, w' = Lib.bytesWorld w 5 t) := Any.strconv_Atoi_ok Tryz.laysC172 s hmax v h w
def Tryz.lays157_ren : Go.Shelf.Ren := ⟨fun | 157 => 197 | 229 => 211 | 199 => 212 | 261 => 221 | 311 => 223 | 312 => 224 | n => n, fun | 9 => 9 | 31 => 111 | 3 => 3 | 5 => 5 | 4 => 4 | 119 => 184 | 0 => 0 | 40 => 186 | 152 => 197 | 21 => 21 | 154 => 199 | 51 => 173 | 141 => 201 | 196 => 207 | 193 => 204 | 198 => 210 | 49 => 208 | 194 => 205 | 201 => 213 | 226 => 215 | 46 => 175 | 227 => 216 | n => n, fun | 0 => 4 | 6 => 7 | n => n⟩
theorem Tryz.lays157 : Go.Proofs.Lays.n157 Tryz.prog Tryz.lays157_ren := {
  mixed := by kernel_rfl
  f157 := Tryz.func197.trans (congrArg some (by kernel_rfl))
  f199 := Tryz.func212.trans (congrArg some (by kernel_rfl))
  f229 := Tryz.func211.trans (congrArg some (by kernel_rfl))
  f261 := Tryz.func221.trans (congrArg some (by kernel_rfl))
  f311 := Tryz.func223.trans (congrArg some (by kernel_rfl))
  f312 := Tryz.func224.trans (congrArg some (by kernel_rfl))
  t0 := Tryz.underlying0
  a0 := Tryz.isAgg0
  z0 := Tryz.sizeOf0
  v0 := Tryz.zeroValue0
  t3 := Tryz.underlying3
  a3 := Tryz.isAgg3
  z3 := Tryz.sizeOf3
  v3 := Tryz.zeroValue3
  t4 := Tryz.underlying4
  a4 := Tryz.isAgg4
  z4 := Tryz.sizeOf4
  v4 := Tryz.zeroValue4
  t5 := Tryz.underlying5
  a5 := Tryz.isAgg5
  z5 := Tryz.sizeOf5
  v5 := Tryz.zeroValue5
  t9 := Tryz.underlying9
  a9 := Tryz.isAgg9
  z9 := Tryz.sizeOf9
  v9 := Tryz.zeroValue9
  t21 := Tryz.underlying21
  a21 := Tryz.isAgg21
  z21 := Tryz.sizeOf21
  v21 := Tryz.zeroValue21
  t31 := Tryz.underlying111
  a31 := Tryz.isAgg111
  z31 := Tryz.sizeOf111
  v31 := Tryz.zeroValue111
  t40 := Tryz.underlying186
  a40 := Tryz.isAgg186
  z40 := Tryz.sizeOf186
  v40 := Tryz.zeroValue186
  t46 := Tryz.underlying175
  a46 := Tryz.isAgg175
  z46 := Tryz.sizeOf175
  v46 := Tryz.zeroValue175
  t49 := Tryz.underlying208
  a49 := Tryz.isAgg208
  z49 := Tryz.sizeOf208
  v49 := Tryz.zeroValue208
  t51 := Tryz.underlying173
  a51 := Tryz.isAgg173
  z51 := Tryz.sizeOf173
  v51 := Tryz.zeroValue173
  t119 := Tryz.underlying184
  a119 := Tryz.isAgg184
  z119 := Tryz.sizeOf184
  t141 := Tryz.underlying201
  a141 := Tryz.isAgg201
  z141 := Tryz.sizeOf201
  v141 := Tryz.zeroValue201
  t152 := Tryz.underlying197
  a152 := Tryz.isAgg197
  z152 := Tryz.sizeOf197
  v152 := Tryz.zeroValue197
  t154 := Tryz.underlying199
  a154 := Tryz.isAgg199
  z154 := Tryz.sizeOf199
  v154 := Tryz.zeroValue199
  t193 := Tryz.underlying204
  a193 := Tryz.isAgg204
  z193 := Tryz.sizeOf204
  v193 := Tryz.zeroValue204
  t194 := Tryz.underlying205
  a194 := Tryz.isAgg205
  z194 := Tryz.sizeOf205
  v194 := Tryz.zeroValue205
  t196 := Tryz.underlying207
  a196 := Tryz.isAgg207
  z196 := Tryz.sizeOf207
  v196 := Tryz.zeroValue207
  t198 := Tryz.underlying210
  a198 := Tryz.isAgg210
  z198 := Tryz.sizeOf210
  v198 := Tryz.zeroValue210
  t201 := Tryz.underlying213
  a201 := Tryz.isAgg213
  z201 := Tryz.sizeOf213
  v201 := Tryz.zeroValue213
  t226 := Tryz.underlying215
  a226 := Tryz.isAgg215
  z226 := Tryz.sizeOf215
  v226 := Tryz.zeroValue215
  t227 := Tryz.underlying216
  a227 := Tryz.isAgg216
  z227 := Tryz.sizeOf216
  v227 := Tryz.zeroValue216
  g0 := by kernel_rfl
  g6 := by kernel_rfl }
open Go.RowKit Go.Lib in
theorem Tryz.strings_Fields (s : ByteArray) (w : World) (hs : s.size < 4294967281) (hascii : ∀ (j : Nat) b, s.data.toList[j]? = some b → b.toNat < 128) (htab : Lib.TabIs Tryz.prog w "strings.asciiSpace" .u8 Lib.asciiSpaceTab) :
    Calls Tryz.prog 197 #[.string s] w fun e w' =>
      e = .returned (.slice (some ⟨w.heap.size, 0, none⟩) (Lib.fields s.data.toList).length (Lib.fields s.data.toList).length) ∧ w' = w.alloc (.cells ((Lib.fields s.data.toList).map fun l => Value.string ⟨l.toArray⟩).toArray 9) := Any.strings_Fields Tryz.lays157 (by kernel_rfl) (by kernel_rfl) s w hs hascii htab
def Tryz.lays110_ren : Go.Shelf.Ren := ⟨fun | 110 => 128 | 109 => 164 | n => n, fun | 31 => 111 | 9 => 9 | 4 => 4 | 3 => 3 | 0 => 0 | n => n, fun | n => n⟩
theorem Tryz.lays110 : Go.Proofs.Lays.n110 Tryz.prog Tryz.lays110_ren := {
  mixed := by kernel_rfl
  f109 := Tryz.func164.trans (congrArg some (by kernel_rfl))
  f110 := Tryz.func128.trans (congrArg some (by kernel_rfl))
  t0 := Tryz.underlying0
  a0 := Tryz.isAgg0
  z0 := Tryz.sizeOf0
  v0 := Tryz.zeroValue0
  t3 := Tryz.underlying3
  a3 := Tryz.isAgg3
  z3 := Tryz.sizeOf3
  v3 := Tryz.zeroValue3
  t4 := Tryz.underlying4
  a4 := Tryz.isAgg4
  z4 := Tryz.sizeOf4
  v4 := Tryz.zeroValue4
  t9 := Tryz.underlying9
  a9 := Tryz.isAgg9
  z9 := Tryz.sizeOf9
  v9 := Tryz.zeroValue9
  t31 := Tryz.underlying111
  a31 := Tryz.isAgg111
  z31 := Tryz.sizeOf111
  v31 := Tryz.zeroValue111 }
open Go.Lib in
theorem Tryz.slices_Contains_string (b off n c : Nat) (zs : List ByteArray) (x : ByteArray) (w : World) (hz : n ≤ zs.length) (hbig : n ≤ 9223372036854775807) (hc : ∀ j, j < zs.length → w.cell? ⟨b, off + j, none⟩ = some (.string (zs.getD j ByteArray.empty))) :
    Calls Tryz.prog 128 #[.slice (some ⟨b, off, none⟩) n c, .string x] w fun e w' => e = .returned (.bool (Lib.containsS (zs.take n) x)) ∧ w' = w := Any.slices_Contains_string Tryz.lays110 b off n c zs x w hz hbig hc
end Go.Proofs
end
