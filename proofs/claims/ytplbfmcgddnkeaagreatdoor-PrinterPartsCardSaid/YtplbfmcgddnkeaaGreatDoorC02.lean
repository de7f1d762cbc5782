/- Walks of functions, and plain facts. -/
import Derived.Test.YtplbfmcgddnkeaaGreatDoorProg
import Derived.Shelf.Strings.Prefix
import Derived.Shelf.Strings.Builder1
import Derived.Shelf.Strings.Trim
import Derived.Shelf.Small.Utf8
import Derived.Shelf.Small.Strs
import Derived.Shelf.Strconv.Atoi
import Derived.Shelf.Strconv.Itoa0
import Derived.Shelf.Strconv.Itoa1
import Derived.Shelf.LaysM
import Derived.Shelf.Strconv.Itoa2
import Derived.Shelf.Strconv.Itoa3
import Derived.Shelf.Strconv.AtoiErrFast
import Derived.Shelf.Strconv.ParseIntEmpty
import Derived.Shelf.Strconv.AtoiFail
import Derived.Shelf.Strconv.Clone
import Derived.Shelf.Strconv.SyntaxError
import Derived.Shelf.LaysC
import Derived.Shelf.Strconv.ToError
import Derived.Shelf.Strconv.Lower
import Derived.Shelf.Strconv.ParseUint10
import Derived.Shelf.Strconv.ParseUint10Empty
import Derived.Shelf.Strconv.ParseUint10Any
import Derived.Shelf.Strconv.ParseInt10
import Derived.Shelf.Strconv.AtoiLong
import Derived.Shelf.Strconv.AtoiInnerAll
import Derived.Shelf.Strconv.RangeError
import Derived.Shelf.Strconv.ToErrorRange
import Derived.Shelf.Strconv.AtoiAll
import Derived.Shelf.Strings.Search1
import Derived.Shelf.Strings.Fields
import Derived.Shelf.Unicode.Latin
import Derived.Shelf.Strings.Runes
import Derived.Shelf.Strings.AsciiSet
import Derived.Shelf.Unicode.DecodeSlow
import Derived.Shelf.Unicode.Is16White
import Derived.Shelf.Unicode.IsSpaceAny
import Derived.Shelf.Unicode.Is16Any
import Derived.Shelf.Unicode.Is32Any
import Derived.Shelf.Unicode.ExclAny
import Derived.Shelf.Slices.Turned
import Derived.Test.YtplbfmcgddnkeaaGreatDoorC01
set_option linter.unusedVariables false
set_option linter.unusedSimpArgs false
set_option maxHeartbeats 20000000
set_option maxRecDepth 100000
namespace Go.Proofs.YtplbfmcgddnkeaaGreatDoor
open Go.RowKit
theorem Q6q (c : Int) (w : World) :
  Calls Tryz.prog 80 #[.int .u8 c] w fun e w' => e = .returned (.bool (Q0a c)) ∧ w' = w := by
 go_enter Tryz.func80, Tryz.ntmps80
 go_wp2
 all_goals (go_ret; refine ⟨?_, rfl⟩; congr 2; simp only [Q0a]; simp [*]; try omega)
theorem Qbd (c : Int) (w : World) :
  Calls Tryz.prog 81 #[.int .u8 c] w fun e w' => e = .returned (.bool (Q9 c)) ∧ w' = w := by
 go_enter Tryz.func81, Tryz.ntmps81
 go_wp2
 all_goals (go_ret; refine ⟨?_, rfl⟩; refine Q4 ?_; simp only [Q9]; try simp [*]; try omega)
theorem Qs0 (c : Int) (w : World) :
  Calls Tryz.prog 40 #[.int .u8 c] w fun e w' => e = .returned (.bool (Q5 c)) ∧ w' = w := by
 cases hl : Q0a c
 ·go_enter Tryz.func40, Tryz.ntmps40
  go_wp2_with (first | (go_at_call 80; refine (Q6q _ _).mono ?_; rintro e w' ⟨rfl, rfl⟩) | (go_at_call 81; refine (Qbd _ _).mono ?_; rintro e w' ⟨rfl, rfl⟩))
  all_goals (go_ret; refine ⟨?_, rfl⟩; congr 2; simp [Q5, hl])
 ·go_enter Tryz.func40, Tryz.ntmps40
  go_wp2_with (first | (go_at_call 80; refine (Q6q _ _).mono ?_; rintro e w' ⟨rfl, rfl⟩) | (go_at_call 81; refine (Qbd _ _).mono ?_; rintro e w' ⟨rfl, rfl⟩))
  all_goals (go_ret; refine ⟨?_, rfl⟩; congr 2; simp [Q5, hl])
theorem Qo1 (c : Int) (w : World) :
  Calls Tryz.prog 79 #[.int .u8 c] w fun e w' => e = .returned (.bool (Q22 c)) ∧ w' = w := by
 go_enter Tryz.func79, Tryz.ntmps79
 go_wp2
 all_goals (go_ret; exact ⟨rfl, rfl⟩)
theorem Qr0 (c : Int) (w : World) :
  Calls Tryz.prog 77 #[.int .u8 c] w fun e w' => e = .returned (.bool (Q01 c)) ∧ w' = w := by
 go_enter Tryz.func77, Tryz.ntmps77
 go_wp2
 all_goals (go_ret; refine ⟨Q4 ?_, rfl⟩; first | rfl | (simp only [Q01]; simp [*]))
theorem Q9o (fn : Nat) (p : Int → Bool) (hc : ∀ args w, (callFunc fn args).run Tryz.prog w = .ok (.enter fn args) w)
  (hp : ∀ (c : Int) w, Calls Tryz.prog fn #[.int .u8 c] w fun e w' => e = .returned (.bool (p c)) ∧ w' = w) (s : List UInt8) (hs : s.length ≤ maxLen) (w : World) :
  Calls Tryz.prog 39 #[.string ⟨s.toArray⟩, .func (.func fn) #[] #[]] w fun e w' => e = .returned (.int .i64 (Q1 p s)) ∧ w' = w := by
 unfold maxLen at hs
 have HP := qh hp
 clear hp
 go_enter Tryz.func39, Tryz.ntmps39
 go_wp2_with fail
 go_loop [8] (fun i => ∃ k : Nat, k ≤ s.length ∧ i = .int .i64 k ∧ Hid (Q1 p s = k + Q1 p (s.drop k))) (fun i => s.length - (intOf i).toNat)
 case atStart => exact ⟨0, Nat.zero_le _, rfl, show _ = _ by simp⟩
 case round =>
  obtain ⟨k, hk, rfl, hall⟩ := hrel
  by_cases hlt : k < s.length
  ·cases hpk : p (s[k].toNat)
   ·go_wp2_with ((refine (HP.out _ _).mono ?_); rintro e w' ⟨rfl, rfl⟩)
    go_ret
    exact ⟨by rw [hall.out, Qcq hlt hpk]; rfl, rfl⟩
   ·go_wp2_with ((refine (HP.out _ _).mono ?_); rintro e w' ⟨rfl, rfl⟩)
    go_round
    case rel => exact ⟨k + 1, by omega, by go_num, show _ = _ by rw [hall.out, Q9b hlt hpk]; omega⟩
    case measure => simp [intOf]; omega
  ·go_wp2
   go_ret
   exact ⟨by rw [hall.out, List.drop_of_length_le (by omega)]; simp [Q1]; omega, rfl⟩
theorem Qap (s : List UInt8) (hs : s.length ≤ maxLen) (w : World) :
  Calls Tryz.prog 39 #[.string ⟨s.toArray⟩, .func (.func 77) #[] #[]] w fun e w' => e = .returned (.int .i64 (Q1 Q01 s)) ∧ w' = w :=
 Q9o 77 Q01 (fun _ _ => by kernel_rfl) Qr0 s hs w
theorem Qrp (s : List UInt8) (hs : s.length ≤ maxLen) (w : World) :
  Calls Tryz.prog 39 #[.string ⟨s.toArray⟩, .func (.func 79) #[] #[]] w fun e w' => e = .returned (.int .i64 (Q1 Q22 s)) ∧ w' = w :=
 Q9o 79 Q22 (fun _ _ => by kernel_rfl) Qo1 s hs w
theorem Qe7 (s : List UInt8) (hs : s.length ≤ maxLen) (w : World) :
  Calls Tryz.prog 39 #[.string ⟨s.toArray⟩, .func (.func 81) #[] #[]] w fun e w' => e = .returned (.int .i64 (Q1 Q9 s)) ∧ w' = w :=
 Q9o 81 Q9 (fun _ _ => by kernel_rfl) Qbd s hs w
theorem Qaq (s : List UInt8) (hs : s.length ≤ maxLen) (w : World) :
  Calls Tryz.prog 39 #[.string ⟨s.toArray⟩, .func (.func 40) #[] #[]] w fun e w' => e = .returned (.int .i64 (Q1 Q5 s)) ∧ w' = w :=
 Q9o 40 Q5 (fun _ _ => by kernel_rfl) Qs0 s hs w
theorem Qqp (s p : List UInt8) (w : World) (hs : s.length ≤ maxLen) :
  Calls Tryz.prog 129 #[.string ⟨s.toArray⟩, .string ⟨p.toArray⟩] w fun e w' => e = .returned (.bool (Lib.hasPrefix s p)) ∧ w' = w := by
 have hs := hs
 unfold maxLen at hs
 by_cases h : p.length ≤ s.length
 ·go_enter Tryz.func129, Tryz.ntmps129
  go_wp2
  go_ret
  exact ⟨Q4 (by rw [← Lib.hasPrefix_of_take]; simp [h]), rfl⟩
 ·go_enter Tryz.func129, Tryz.ntmps129
  go_wp2
  go_ret
  exact ⟨Q4 (by rw [← Lib.hasPrefix_of_take]; simp [h]), rfl⟩
theorem Q8e (s p : List UInt8) (w : World) (hs : s.length ≤ maxLen) :
  Calls Tryz.prog 78 #[.string ⟨s.toArray⟩, .string ⟨p.toArray⟩] w fun e w' => e = .returned (.bool (Lib.hasPrefix s p)) ∧ w' = w := by
 go_enter Tryz.func78, Tryz.ntmps78
 go_wp2_with (go_at_call 129; refine (Qqp _ _ _ hs).mono ?_; rintro e w' ⟨rfl, rfl⟩)
 go_ret
 exact ⟨rfl, rfl⟩
theorem Qaa (s : List UInt8) (w : World) (hs : s.length ≤ 1000000000) :
  Calls Tryz.prog 38 #[.string ⟨s.toArray⟩] w fun e w' => e = .returned (.int .i64 (skip false s)) ∧ w' = w := by
 go_enter Tryz.func38, Tryz.ntmps38
 go_wp2_with fail
 go_loop [3] (fun i => ∃ k : Nat, k ≤ s.length ∧ i = .int .i64 k ∧ Hid (skip false s = k + skip false (s.drop k))) (fun i => s.length - (intOf i).toNat)
 case atStart => exact ⟨0, Nat.zero_le _, rfl, show _ = _ by simp⟩
 case round =>
  obtain ⟨k, hk, rfl, hall⟩ := hrel
  have hl := qh (show (s.drop k).length ≤ maxLen by simp [maxLen]; omega)
  have b0 := Q2n Q01 (s.drop k)
  have b1 := Q2n Q22 (s.drop k)
  simp only [List.length_drop] at b0 b1
  by_cases h0 : Q1 Q01 (s.drop k) = 0
  ·cases h1 : Lib.hasPrefix (s.drop k) [35]
   ·have e1 := qh (Qk1 h1 h0)
    have h1 := qh h1
    (go_wp2_with fail; (with_reducible refine (Qap _ hl.out _).mono ?_); rintro e w' ⟨rfl, rfl⟩)
    rw [h0]; clear h0
    (go_wp2_with fail; (with_reducible refine (Q8e _ _ _ hl.out).mono ?_); rintro e w' ⟨rfl, rfl⟩)
    rw [h1.out]
    go_wp2_with fail
    go_ret
    exact ⟨Q27 (by rw [hall.out, e1.out]; rfl), rfl⟩
   ·have e1 := qh (Qto h1)
    have hpos := Qkr h1
    have hb : ((Q1 Q22 (List.drop k s) : Int) == 0) = false := by rw [beq_eq_false_iff_ne]; omega
    have h1 := qh h1
    (go_wp2_with fail; (with_reducible refine (Qap _ hl.out _).mono ?_); rintro e w' ⟨rfl, rfl⟩)
    rw [h0]; clear h0
    (go_wp2_with fail; (with_reducible refine (Q8e _ _ _ hl.out).mono ?_); rintro e w' ⟨rfl, rfl⟩)
    rw [h1.out]
    (go_wp2_with fail; (with_reducible refine (Qrp _ hl.out _).mono ?_); rintro e w' ⟨rfl, rfl⟩)
    go_wp2_with fail
    go_round
    case rel => exact ⟨k + Q1 Q22 (s.drop k), by omega, by go_num, show _ = _ by rw [hall.out, e1.out, List.drop_drop]; omega⟩
    case measure => simp [intOf]; omega
  ·have e1 := qh (Qod (s.drop k))
   have hpos : 0 < Q1 Q01 (List.drop k s) := by omega
   have h0 : ((Q1 Q01 (List.drop k s) : Int) == 0) = false := by simpa using h0
   (go_wp2_with fail; (with_reducible refine (Qap _ hl.out _).mono ?_); rintro e w' ⟨rfl, rfl⟩)
   go_wp2_with fail
   go_round
   case rel => exact ⟨k + Q1 Q01 (s.drop k), by omega, by go_num, show _ = _ by rw [hall.out, e1.out, List.drop_drop]; omega⟩
   case measure => simp [intOf]; omega
def Q7w (k : Nat) : List UInt8 := Qv.getD k []
def Qa9 : Array Value := (Qv.map fun l => Value.string ⟨l.toArray⟩).toArray
def Q0q (w : World) : Prop := ∃ t fr, w.heap[0]? = some (.cells Qa9 t fr)
theorem Qmi (k : Nat) (h : k < 13) : ∀ w, (Instr.index 102 (.agg Qa9) (.int .i64 (k : Int))).run Tryz.prog w = .ok (.string ⟨(Q7w k).toArray⟩) w := by
 intro w
 match k, h with
 | 0, _ => (show _ = _; kernel_rfl)
 | 1, _ => (show _ = _; kernel_rfl)
 | 2, _ => (show _ = _; kernel_rfl)
 | 3, _ => (show _ = _; kernel_rfl)
 | 4, _ => (show _ = _; kernel_rfl)
 | 5, _ => (show _ = _; kernel_rfl)
 | 6, _ => (show _ = _; kernel_rfl)
 | 7, _ => (show _ = _; kernel_rfl)
 | 8, _ => (show _ = _; kernel_rfl)
 | 9, _ => (show _ = _; kernel_rfl)
 | 10, _ => (show _ = _; kernel_rfl)
 | 11, _ => (show _ = _; kernel_rfl)
 | 12, _ => (show _ = _; kernel_rfl)
theorem Qkw {k : Nat} (h : k < 13) (s : List UInt8) : Q11 (Qv.drop k) s = if Lib.hasPrefix s (Q7w k) then Q7w k else Q11 (Qv.drop (k + 1)) s := by
 have hl : k < Qv.length := h
 rw [List.drop_eq_getElem_cons hl, Q11]; simp [Q7w, List.getD, hl]
theorem Qju (s : List UInt8) (w : World) (hs : s.length ≤ maxLen) (hg : Q0q w) :
  Calls Tryz.prog 42 #[.string ⟨s.toArray⟩] w fun e w' => e = .returned (.string ⟨(Q11 Qv s).toArray⟩) ∧ w' = w := by
 have hs := qh hs
 obtain ⟨t, fr, hg⟩ := hg
 have HG := qh hg
 clear hg
 go_enter Tryz.func42, Tryz.ntmps42
 go_wp2_with (refine wpList_load_row rfl 102 _ rfl 0 rfl t _ fr _ HG.out Tryz.underlying102 rfl (by kernel_rfl) ?_)
 go_loop [6] (fun i => ∃ k : Nat, k ≤ 13 ∧ i = .int .i64 k ∧ Hid (Q11 Qv s = Q11 (Qv.drop k) s)) (fun i => 13 - (intOf i).toNat)
 case atStart => exact ⟨0, Nat.zero_le _, rfl, show _ = _ from rfl⟩
 case round =>
  obtain ⟨k, hk, rfl, hall⟩ := hrel
  by_cases hlt : k < 13
  ·have hidx := Qmi k hlt
   have hst := qh (Qkw hlt s)
   cases hp : Lib.hasPrefix s (Q7w k)
   ·have hp := qh hp
    (go_wp2_with fail; (with_reducible refine (Q8e _ _ _ hs.out).mono ?_); rintro e w' ⟨rfl, rfl⟩)
    rw [hp.out]
    go_wp2_with fail
    go_round
    case rel => exact ⟨k + 1, by omega, by go_num, show _ = _ by rw [hall.out, hst.out, hp.out]; rfl⟩
    case measure => simp [intOf]; omega
   ·have hp := qh hp
    (go_wp2_with fail; (with_reducible refine (Q8e _ _ _ hs.out).mono ?_); rintro e w' ⟨rfl, rfl⟩)
    rw [hp.out]
    go_wp2_with fail
    go_ret
    exact ⟨Q1v (by rw [hall.out, hst.out, hp.out]; rfl), rfl⟩
  ·go_wp2_with fail
   go_ret
   have : k = 13 := by omega
   subst this
   exact ⟨Q1v (by rw [hall.out]; rfl), rfl⟩
end Go.Proofs.YtplbfmcgddnkeaaGreatDoor
section
namespace Go.Proofs
open Go.Shelf
def Tryz.lays161_ren : Go.Shelf.Ren := ⟨fun | 161 => 130 | 231 => 165 | 227 => 166 | 233 => 167 | 235 => 168 | 228 => 192 | 197 => 193 | 151 => 194 | 260 => 208 | 152 => 209 | 137 => 217 | 119 => 218 | 224 => 219 | 225 => 220 | 217 => 222 | 266 => 225 | n => n, fun | 9 => 9 | 4 => 4 | 3 => 3 | 5 => 5 | 117 => 145 | 116 => 144 | 0 => 0 | 124 => 148 | 105 => 165 | 21 => 21 | 119 => 184 | 46 => 175 | 139 => 194 | 138 => 193 | n => n, fun | 3 => 5 | 4 => 6 | n => n⟩
theorem Tryz.lays161 : Go.Proofs.Lays.n161 Tryz.prog Tryz.lays161_ren := {
 mixed := by kernel_rfl
 f119 := Tryz.func218.trans (congrArg some (by kernel_rfl))
 f137 := Tryz.func217.trans (congrArg some (by kernel_rfl))
 f151 := Tryz.func194.trans (congrArg some (by kernel_rfl))
 f152 := Tryz.func209.trans (congrArg some (by kernel_rfl))
 f161 := Tryz.func130.trans (congrArg some (by kernel_rfl))
 f197 := Tryz.func193.trans (congrArg some (by kernel_rfl))
 f217 := Tryz.func222.trans (congrArg some (by kernel_rfl))
 f224 := Tryz.func219.trans (congrArg some (by kernel_rfl))
 f225 := Tryz.func220.trans (congrArg some (by kernel_rfl))
 f227 := Tryz.func166.trans (congrArg some (by kernel_rfl))
 f228 := Tryz.func192.trans (congrArg some (by kernel_rfl))
 f231 := Tryz.func165.trans (congrArg some (by kernel_rfl))
 f233 := Tryz.func167.trans (congrArg some (by kernel_rfl))
 f235 := Tryz.func168.trans (congrArg some (by kernel_rfl))
 f260 := Tryz.func208.trans (congrArg some (by kernel_rfl))
 f266 := Tryz.func225.trans (congrArg some (by kernel_rfl))
 t0 := Tryz.underlying0
 a0 := Tryz.isAgg0
 z0 := Tryz.sizeOf0
 v0 := Tryz.zeroValue0
 t3 := Tryz.underlying3
 a3 := Tryz.isAgg3
 z3 := Tryz.sizeOf3
 v3 := Tryz.zeroValue3
 t4 := Tryz.underlying4
 a4 := Tryz.isAgg4
 z4 := Tryz.sizeOf4
 v4 := Tryz.zeroValue4
 t5 := Tryz.underlying5
 a5 := Tryz.isAgg5
 z5 := Tryz.sizeOf5
 v5 := Tryz.zeroValue5
 t9 := Tryz.underlying9
 a9 := Tryz.isAgg9
 z9 := Tryz.sizeOf9
 v9 := Tryz.zeroValue9
 t21 := Tryz.underlying21
 a21 := Tryz.isAgg21
 z21 := Tryz.sizeOf21
 v21 := Tryz.zeroValue21
 t46 := Tryz.underlying175
 a46 := Tryz.isAgg175
 z46 := Tryz.sizeOf175
 v46 := Tryz.zeroValue175
 t105 := Tryz.underlying165
 a105 := Tryz.isAgg165
 z105 := Tryz.sizeOf165
 v105 := Tryz.zeroValue165
 t116 := Tryz.underlying144
 a116 := Tryz.isAgg144
 z116 := Tryz.sizeOf144
 t117 := Tryz.underlying145
 a117 := Tryz.isAgg145
 z117 := Tryz.sizeOf145
 v117 := Tryz.zeroValue145
 t119 := Tryz.underlying184
 a119 := Tryz.isAgg184
 z119 := Tryz.sizeOf184
 t124 := Tryz.underlying148
 a124 := Tryz.isAgg148
 z124 := Tryz.sizeOf148
 v124 := Tryz.zeroValue148
 t138 := Tryz.underlying193
 a138 := Tryz.isAgg193
 z138 := Tryz.sizeOf193
 v138 := Tryz.zeroValue193
 t139 := Tryz.underlying194
 a139 := Tryz.isAgg194
 z139 := Tryz.sizeOf194
 v139 := Tryz.zeroValue194
 g3 := by kernel_rfl
 g4 := by kernel_rfl }
open Go.RowKit in
theorem Tryz.strings_TrimLeft_one (s : ByteArray) (c : UInt8) (hc : c.toNat < 128) (w : World) :
  Calls Tryz.prog 130 #[.string s, .string ⟨#[c]⟩] w fun e w' => e = .returned (.string ⟨(Lib.trimLeftB s.data.toList c).toArray⟩) ∧ w' = w := Any.strings_TrimLeft_one Tryz.lays161 s c hc w
def Tryz.lays172_ren : Go.Shelf.Ren := ⟨fun | 172 => 122 | 244 => 158 | 245 => 159 | 247 => 183 | 279 => 184 | 280 => 185 | 281 => 186 | 282 => 187 | 287 => 204 | 316 => 205 | 171 => 54 | 205 => 206 | 321 => 215 | 322 => 216 | 243 => 100 | 246 => 146 | 283 => 177 | 284 => 178 | 285 => 179 | 286 => 180 | 129 => 199 | 317 => 198 | 318 => 200 | 319 => 201 | 320 => 202 | 337 => 213 | 338 => 214 | n => n, fun | 9 => 9 | 3 => 3 | 75 => 113 | 76 => 114 | 4 => 4 | 5 => 5 | 167 => 158 | 37 => 73 | 0 => 0 | 85 => 159 | 2 => 2 | 168 => 161 | 53 => 153 | 175 => 177 | 46 => 175 | 210 => 180 | 127 => 125 | 145 => 191 | 143 => 189 | 21 => 21 | 171 => 152 | 173 => 156 | 212 => 172 | 51 => 173 | 20 => 20 | 213 => 174 | 232 => 202 | 233 => 203 | 80 => 86 | n => n, fun | 15 => 2 | 16 => 3 | 17 => 1 | 18 => 8 | 19 => 9 | n => n⟩
theorem Tryz.lays172 : Go.Proofs.Lays.n172 Tryz.prog Tryz.lays172_ren := {
 mixed := by kernel_rfl
 f129 := Tryz.func199.trans (congrArg some (by kernel_rfl))
 f171 := Tryz.func54.trans (congrArg some (by kernel_rfl))
 f172 := Tryz.func122.trans (congrArg some (by kernel_rfl))
 f205 := Tryz.func206.trans (congrArg some (by kernel_rfl))
 f243 := Tryz.func100.trans (congrArg some (by kernel_rfl))
 f244 := Tryz.func158.trans (congrArg some (by kernel_rfl))
 f245 := Tryz.func159.trans (congrArg some (by kernel_rfl))
 f246 := Tryz.func146.trans (congrArg some (by kernel_rfl))
 f247 := Tryz.func183.trans (congrArg some (by kernel_rfl))
 f279 := Tryz.func184.trans (congrArg some (by kernel_rfl))
 f280 := Tryz.func185.trans (congrArg some (by kernel_rfl))
 f281 := Tryz.func186.trans (congrArg some (by kernel_rfl))
 f282 := Tryz.func187.trans (congrArg some (by kernel_rfl))
 f283 := Tryz.func177.trans (congrArg some (by kernel_rfl))
 f284 := Tryz.func178.trans (congrArg some (by kernel_rfl))
 f285 := Tryz.func179.trans (congrArg some (by kernel_rfl))
 f286 := Tryz.func180.trans (congrArg some (by kernel_rfl))
 f287 := Tryz.func204.trans (congrArg some (by kernel_rfl))
 f316 := Tryz.func205.trans (congrArg some (by kernel_rfl))
 f317 := Tryz.func198.trans (congrArg some (by kernel_rfl))
 f318 := Tryz.func200.trans (congrArg some (by kernel_rfl))
 f319 := Tryz.func201.trans (congrArg some (by kernel_rfl))
 f320 := Tryz.func202.trans (congrArg some (by kernel_rfl))
 f321 := Tryz.func215.trans (congrArg some (by kernel_rfl))
 f322 := Tryz.func216.trans (congrArg some (by kernel_rfl))
 f337 := Tryz.func213.trans (congrArg some (by kernel_rfl))
 f338 := Tryz.func214.trans (congrArg some (by kernel_rfl))
 t0 := Tryz.underlying0
 a0 := Tryz.isAgg0
 z0 := Tryz.sizeOf0
 v0 := Tryz.zeroValue0
 t2 := Tryz.underlying2
 a2 := Tryz.isAgg2
 z2 := Tryz.sizeOf2
 v2 := Tryz.zeroValue2
 t3 := Tryz.underlying3
 a3 := Tryz.isAgg3
 z3 := Tryz.sizeOf3
 v3 := Tryz.zeroValue3
 t4 := Tryz.underlying4
 a4 := Tryz.isAgg4
 z4 := Tryz.sizeOf4
 v4 := Tryz.zeroValue4
 t5 := Tryz.underlying5
 a5 := Tryz.isAgg5
 z5 := Tryz.sizeOf5
 v5 := Tryz.zeroValue5
 t9 := Tryz.underlying9
 a9 := Tryz.isAgg9
 z9 := Tryz.sizeOf9
 v9 := Tryz.zeroValue9
 t20 := Tryz.underlying20
 a20 := Tryz.isAgg20
 z20 := Tryz.sizeOf20
 v20 := Tryz.zeroValue20
 t21 := Tryz.underlying21
 a21 := Tryz.isAgg21
 z21 := Tryz.sizeOf21
 v21 := Tryz.zeroValue21
 t37 := Tryz.underlying73
 a37 := Tryz.isAgg73
 z37 := Tryz.sizeOf73
 v37 := Tryz.zeroValue73
 t46 := Tryz.underlying175
 a46 := Tryz.isAgg175
 z46 := Tryz.sizeOf175
 v46 := Tryz.zeroValue175
 t51 := Tryz.underlying173
 a51 := Tryz.isAgg173
 z51 := Tryz.sizeOf173
 v51 := Tryz.zeroValue173
 t53 := Tryz.underlying153
 a53 := Tryz.isAgg153
 z53 := Tryz.sizeOf153
 v53 := Tryz.zeroValue153
 t75 := Tryz.underlying113
 a75 := Tryz.isAgg113
 z75 := Tryz.sizeOf113
 v75 := Tryz.zeroValue113
 t76 := Tryz.underlying114
 a76 := Tryz.isAgg114
 z76 := Tryz.sizeOf114
 v76 := Tryz.zeroValue114
 t85 := Tryz.underlying159
 a85 := Tryz.isAgg159
 z85 := Tryz.sizeOf159
 v85 := Tryz.zeroValue159
 t127 := Tryz.underlying125
 a127 := Tryz.isAgg125
 z127 := Tryz.sizeOf125
 v127 := Tryz.zeroValue125
 t143 := Tryz.underlying189
 a143 := Tryz.isAgg189
 z143 := Tryz.sizeOf189
 v143 := Tryz.zeroValue189
 t145 := Tryz.underlying191
 a145 := Tryz.isAgg191
 z145 := Tryz.sizeOf191
 v145 := Tryz.zeroValue191
 t167 := Tryz.underlying158
 a167 := Tryz.isAgg158
 z167 := Tryz.sizeOf158
 v167 := Tryz.zeroValue158
 t168 := Tryz.underlying161
 a168 := Tryz.isAgg161
 z168 := Tryz.sizeOf161
 v168 := Tryz.zeroValue161
 t171 := Tryz.underlying152
 a171 := Tryz.isAgg152
 z171 := Tryz.sizeOf152
 v171 := Tryz.zeroValue152
 t173 := Tryz.underlying156
 a173 := Tryz.isAgg156
 z173 := Tryz.sizeOf156
 v173 := Tryz.zeroValue156
 t175 := Tryz.underlying177
 a175 := Tryz.isAgg177
 z175 := Tryz.sizeOf177
 v175 := Tryz.zeroValue177
 t210 := Tryz.underlying180
 a210 := Tryz.isAgg180
 z210 := Tryz.sizeOf180
 v210 := Tryz.zeroValue180
 t212 := Tryz.underlying172
 a212 := Tryz.isAgg172
 z212 := Tryz.sizeOf172
 v212 := Tryz.zeroValue172
 t213 := Tryz.underlying174
 a213 := Tryz.isAgg174
 z213 := Tryz.sizeOf174
 t232 := Tryz.underlying202
 a232 := Tryz.isAgg202
 z232 := Tryz.sizeOf202
 v232 := Tryz.zeroValue202
 t233 := Tryz.underlying203
 a233 := Tryz.isAgg203
 z233 := Tryz.sizeOf203
 v233 := Tryz.zeroValue203
 g15 := by kernel_rfl
 g16 := by kernel_rfl
 g17 := by kernel_rfl
 g18 := by kernel_rfl
 g19 := by kernel_rfl }
open Go.RowKit in
theorem Tryz.strconv_Atoi (s : ByteArray) (n : Int) (hl : s.size ≤ 18) (h : Lib.atoi s.data.toList = some n) (w : World) :
  Calls Tryz.prog 122 #[.string s] w fun e w' => e = .returned (.tuple #[.int .i64 n, .nilIface]) ∧ ∃ t, w' = Lib.bytesWorld w 5 t := Any.strconv_Atoi Tryz.lays172 s n hl h w
def Tryz.laysM171_ren : Go.Shelf.Ren := ⟨fun | 171 => 54 | 243 => 100 | 246 => 146 | 283 => 177 | 284 => 178 | 285 => 179 | 286 => 180 | 129 => 199 | 317 => 198 | 318 => 200 | 319 => 201 | 320 => 202 | 337 => 213 | 338 => 214 | n => n, fun | 3 => 3 | 9 => 9 | 2 => 2 | 4 => 4 | 171 => 152 | 0 => 0 | 53 => 153 | 37 => 73 | 5 => 5 | 173 => 156 | 212 => 172 | 51 => 173 | 20 => 20 | 213 => 174 | 46 => 175 | 232 => 202 | 233 => 203 | n => n, fun | 17 => 1 | 18 => 8 | 19 => 9 | n => n⟩
theorem Tryz.laysM171 : Go.Proofs.LaysM.n171 Tryz.prog Tryz.laysM171_ren := {
 mixed := by kernel_rfl
 f129 := Tryz.func199.trans (congrArg some (by kernel_rfl))
 f171 := Tryz.func54.trans (congrArg some (by kernel_rfl))
 f243 := Tryz.func100.trans (congrArg some (by kernel_rfl))
 f246 := Tryz.func146.trans (congrArg some (by kernel_rfl))
 f283 := Tryz.func177.trans (congrArg some (by kernel_rfl))
 f284 := Tryz.func178.trans (congrArg some (by kernel_rfl))
 f285 := Tryz.func179.trans (congrArg some (by kernel_rfl))
 f286 := Tryz.func180.trans (congrArg some (by kernel_rfl))
 f317 := Tryz.func198.trans (congrArg some (by kernel_rfl))
 f318 := Tryz.func200.trans (congrArg some (by kernel_rfl))
 f319 := Tryz.func201.trans (congrArg some (by kernel_rfl))
 f320 := Tryz.func202.trans (congrArg some (by kernel_rfl))
 f337 := Tryz.func213.trans (congrArg some (by kernel_rfl))
 f338 := Tryz.func214.trans (congrArg some (by kernel_rfl))
 t0 := Tryz.underlying0
 a0 := Tryz.isAgg0
 z0 := Tryz.sizeOf0
 v0 := Tryz.zeroValue0
 t2 := Tryz.underlying2
 a2 := Tryz.isAgg2
 z2 := Tryz.sizeOf2
 v2 := Tryz.zeroValue2
 t3 := Tryz.underlying3
 a3 := Tryz.isAgg3
 z3 := Tryz.sizeOf3
 v3 := Tryz.zeroValue3
 t4 := Tryz.underlying4
 a4 := Tryz.isAgg4
 z4 := Tryz.sizeOf4
 v4 := Tryz.zeroValue4
 t5 := Tryz.underlying5
 a5 := Tryz.isAgg5
 z5 := Tryz.sizeOf5
 v5 := Tryz.zeroValue5
 t9 := Tryz.underlying9
 a9 := Tryz.isAgg9
 z9 := Tryz.sizeOf9
 v9 := Tryz.zeroValue9
 t20 := Tryz.underlying20
 a20 := Tryz.isAgg20
 z20 := Tryz.sizeOf20
 v20 := Tryz.zeroValue20
 t37 := Tryz.underlying73
 a37 := Tryz.isAgg73
 z37 := Tryz.sizeOf73
 v37 := Tryz.zeroValue73
 t46 := Tryz.underlying175
 a46 := Tryz.isAgg175
 z46 := Tryz.sizeOf175
 v46 := Tryz.zeroValue175
 t51 := Tryz.underlying173
 a51 := Tryz.isAgg173
 z51 := Tryz.sizeOf173
 v51 := Tryz.zeroValue173
 t53 := Tryz.underlying153
 a53 := Tryz.isAgg153
 z53 := Tryz.sizeOf153
 v53 := Tryz.zeroValue153
 t171 := Tryz.underlying152
 a171 := Tryz.isAgg152
 z171 := Tryz.sizeOf152
 v171 := Tryz.zeroValue152
 t173 := Tryz.underlying156
 a173 := Tryz.isAgg156
 z173 := Tryz.sizeOf156
 v173 := Tryz.zeroValue156
 t212 := Tryz.underlying172
 a212 := Tryz.isAgg172
 z212 := Tryz.sizeOf172
 v212 := Tryz.zeroValue172
 t213 := Tryz.underlying174
 a213 := Tryz.isAgg174
 z213 := Tryz.sizeOf174
 t232 := Tryz.underlying202
 a232 := Tryz.isAgg202
 z232 := Tryz.sizeOf202
 v232 := Tryz.zeroValue202
 t233 := Tryz.underlying203
 a233 := Tryz.isAgg203
 z233 := Tryz.sizeOf203
 v233 := Tryz.zeroValue203
 g17 := by kernel_rfl
 g18 := by kernel_rfl
 g19 := by kernel_rfl
 i0 := by kernel_rfl
 i2 := by kernel_rfl
 i3 := by kernel_rfl
 i4 := by kernel_rfl
 i5 := by kernel_rfl
 i9 := by kernel_rfl
 i20 := by kernel_rfl
 i37 := by kernel_rfl
 i46 := by kernel_rfl
 i51 := by kernel_rfl
 i53 := by kernel_rfl
 i171 := by kernel_rfl
 i173 := by kernel_rfl
 i212 := by kernel_rfl
 i232 := by kernel_rfl
 i233 := by kernel_rfl
 m17 := by kernel_rfl
 m18 := by kernel_rfl
 m19 := by kernel_rfl }
open Go.RowKit Go.Sort Go.Lib in
theorem Tryz.strconv_Itoa (n : Int) (h0 : -9223372036854775808 ≤ n) (h1 : n ≤ 9223372036854775807) (w : World) (htab : Lib.TabIs Tryz.prog w "internal/strconv.uint64pow10" .u64 Lib.pow10Tab) :
  Calls Tryz.prog 54 #[.int .i64 n] w fun e w' => e = .returned (.string ⟨(Lib.itoa n).toArray⟩) ∧ ∃ k os, w' = grow (w.drewN k) os := Any.strconv_Itoa Tryz.laysM171 n h0 h1 w htab
def Tryz.laysC172_ren : Go.Shelf.Ren := ⟨fun | 172 => 122 | 244 => 158 | 245 => 159 | 247 => 183 | 279 => 184 | 280 => 185 | 281 => 186 | 282 => 187 | 287 => 204 | 316 => 205 | 171 => 54 | 205 => 206 | 321 => 215 | 322 => 216 | 243 => 100 | 246 => 146 | 283 => 177 | 284 => 178 | 285 => 179 | 286 => 180 | 129 => 199 | 317 => 198 | 318 => 200 | 319 => 201 | 320 => 202 | 337 => 213 | 338 => 214 | n => n, fun | 9 => 9 | 3 => 3 | 75 => 113 | 76 => 114 | 4 => 4 | 5 => 5 | 167 => 158 | 37 => 73 | 0 => 0 | 85 => 159 | 2 => 2 | 168 => 161 | 53 => 153 | 175 => 177 | 46 => 175 | 210 => 180 | 127 => 125 | 145 => 191 | 143 => 189 | 21 => 21 | 171 => 152 | 173 => 156 | 212 => 172 | 51 => 173 | 20 => 20 | 213 => 174 | 232 => 202 | 233 => 203 | 80 => 86 | n => n, fun | 15 => 2 | 16 => 3 | 17 => 1 | 18 => 8 | 19 => 9 | n => n⟩
theorem Tryz.laysC172 : Go.Proofs.LaysC.n172 Tryz.prog Tryz.laysC172_ren := {
 mixed := by kernel_rfl
 f129 := Tryz.func199.trans (congrArg some (by kernel_rfl))
 f171 := Tryz.func54.trans (congrArg some (by kernel_rfl))
 f172 := Tryz.func122.trans (congrArg some (by kernel_rfl))
 f205 := Tryz.func206.trans (congrArg some (by kernel_rfl))
 f243 := Tryz.func100.trans (congrArg some (by kernel_rfl))
 f244 := Tryz.func158.trans (congrArg some (by kernel_rfl))
 f245 := Tryz.func159.trans (congrArg some (by kernel_rfl))
 f246 := Tryz.func146.trans (congrArg some (by kernel_rfl))
 f247 := Tryz.func183.trans (congrArg some (by kernel_rfl))
 f279 := Tryz.func184.trans (congrArg some (by kernel_rfl))
 f280 := Tryz.func185.trans (congrArg some (by kernel_rfl))
 f281 := Tryz.func186.trans (congrArg some (by kernel_rfl))
 f282 := Tryz.func187.trans (congrArg some (by kernel_rfl))
 f283 := Tryz.func177.trans (congrArg some (by kernel_rfl))
 f284 := Tryz.func178.trans (congrArg some (by kernel_rfl))
 f285 := Tryz.func179.trans (congrArg some (by kernel_rfl))
 f286 := Tryz.func180.trans (congrArg some (by kernel_rfl))
 f287 := Tryz.func204.trans (congrArg some (by kernel_rfl))
 f316 := Tryz.func205.trans (congrArg some (by kernel_rfl))
 f317 := Tryz.func198.trans (congrArg some (by kernel_rfl))
 f318 := Tryz.func200.trans (congrArg some (by kernel_rfl))
 f319 := Tryz.func201.trans (congrArg some (by kernel_rfl))
 f320 := Tryz.func202.trans (congrArg some (by kernel_rfl))
 f321 := Tryz.func215.trans (congrArg some (by kernel_rfl))
 f322 := Tryz.func216.trans (congrArg some (by kernel_rfl))
 f337 := Tryz.func213.trans (congrArg some (by kernel_rfl))
 f338 := Tryz.func214.trans (congrArg some (by kernel_rfl))
 t0 := Tryz.underlying0
 a0 := Tryz.isAgg0
 z0 := Tryz.sizeOf0
 v0 := Tryz.zeroValue0
 t2 := Tryz.underlying2
 a2 := Tryz.isAgg2
 z2 := Tryz.sizeOf2
 v2 := Tryz.zeroValue2
 t3 := Tryz.underlying3
 a3 := Tryz.isAgg3
 z3 := Tryz.sizeOf3
 v3 := Tryz.zeroValue3
 t4 := Tryz.underlying4
 a4 := Tryz.isAgg4
 z4 := Tryz.sizeOf4
 v4 := Tryz.zeroValue4
 t5 := Tryz.underlying5
 a5 := Tryz.isAgg5
 z5 := Tryz.sizeOf5
 v5 := Tryz.zeroValue5
 t9 := Tryz.underlying9
 a9 := Tryz.isAgg9
 z9 := Tryz.sizeOf9
 v9 := Tryz.zeroValue9
 t20 := Tryz.underlying20
 a20 := Tryz.isAgg20
 z20 := Tryz.sizeOf20
 v20 := Tryz.zeroValue20
 t21 := Tryz.underlying21
 a21 := Tryz.isAgg21
 z21 := Tryz.sizeOf21
 v21 := Tryz.zeroValue21
 t37 := Tryz.underlying73
 a37 := Tryz.isAgg73
 z37 := Tryz.sizeOf73
 v37 := Tryz.zeroValue73
 t46 := Tryz.underlying175
 a46 := Tryz.isAgg175
 z46 := Tryz.sizeOf175
 v46 := Tryz.zeroValue175
 t51 := Tryz.underlying173
 a51 := Tryz.isAgg173
 z51 := Tryz.sizeOf173
 v51 := Tryz.zeroValue173
 t53 := Tryz.underlying153
 a53 := Tryz.isAgg153
 z53 := Tryz.sizeOf153
 v53 := Tryz.zeroValue153
 t75 := Tryz.underlying113
 a75 := Tryz.isAgg113
 z75 := Tryz.sizeOf113
 v75 := Tryz.zeroValue113
 t76 := Tryz.underlying114
 a76 := Tryz.isAgg114
 z76 := Tryz.sizeOf114
 v76 := Tryz.zeroValue114
 t85 := Tryz.underlying159
 a85 := Tryz.isAgg159
 z85 := Tryz.sizeOf159
 v85 := Tryz.zeroValue159
 t127 := Tryz.underlying125
 a127 := Tryz.isAgg125
 z127 := Tryz.sizeOf125
 v127 := Tryz.zeroValue125
 t143 := Tryz.underlying189
 a143 := Tryz.isAgg189
 z143 := Tryz.sizeOf189
 v143 := Tryz.zeroValue189
 t145 := Tryz.underlying191
 a145 := Tryz.isAgg191
 z145 := Tryz.sizeOf191
 v145 := Tryz.zeroValue191
 t167 := Tryz.underlying158
 a167 := Tryz.isAgg158
 z167 := Tryz.sizeOf158
 v167 := Tryz.zeroValue158
 t168 := Tryz.underlying161
 a168 := Tryz.isAgg161
 z168 := Tryz.sizeOf161
 v168 := Tryz.zeroValue161
 t171 := Tryz.underlying152
 a171 := Tryz.isAgg152
 z171 := Tryz.sizeOf152
 v171 := Tryz.zeroValue152
 t173 := Tryz.underlying156
 a173 := Tryz.isAgg156
 z173 := Tryz.sizeOf156
 v173 := Tryz.zeroValue156
 t175 := Tryz.underlying177
 a175 := Tryz.isAgg177
 z175 := Tryz.sizeOf177
 v175 := Tryz.zeroValue177
 t210 := Tryz.underlying180
 a210 := Tryz.isAgg180
 z210 := Tryz.sizeOf180
 v210 := Tryz.zeroValue180
 t212 := Tryz.underlying172
 a212 := Tryz.isAgg172
 z212 := Tryz.sizeOf172
 v212 := Tryz.zeroValue172
 t213 := Tryz.underlying174
 a213 := Tryz.isAgg174
 z213 := Tryz.sizeOf174
 t232 := Tryz.underlying202
 a232 := Tryz.isAgg202
 z232 := Tryz.sizeOf202
 v232 := Tryz.zeroValue202
 t233 := Tryz.underlying203
 a233 := Tryz.isAgg203
 z233 := Tryz.sizeOf203
 v233 := Tryz.zeroValue203
 g15 := by kernel_rfl
 g16 := by kernel_rfl
 g17 := by kernel_rfl
 g18 := by kernel_rfl
 g19 := by kernel_rfl
 t80 := Tryz.underlying86
 a80 := Tryz.isAgg86
 z80 := Tryz.sizeOf86
 v80 := Tryz.zeroValue86
 i0 := by kernel_rfl
 i2 := by kernel_rfl
 i3 := by kernel_rfl
 i4 := by kernel_rfl
 i5 := by kernel_rfl
 i9 := by kernel_rfl
 i20 := by kernel_rfl
 i21 := by kernel_rfl
 i37 := by kernel_rfl
 i46 := by kernel_rfl
 i51 := by kernel_rfl
 i53 := by kernel_rfl
 i75 := by kernel_rfl
 i76 := by kernel_rfl
 i80 := by kernel_rfl
 i85 := by kernel_rfl
 i127 := by kernel_rfl
 i143 := by kernel_rfl
 i145 := by kernel_rfl
 i167 := by kernel_rfl
 i168 := by kernel_rfl
 i171 := by kernel_rfl
 i173 := by kernel_rfl
 i175 := by kernel_rfl
 i210 := by kernel_rfl
 i212 := by kernel_rfl
 i232 := by kernel_rfl
 i233 := by kernel_rfl
 m15 := by kernel_rfl
 m16 := by kernel_rfl
 m17 := by kernel_rfl
 m18 := by kernel_rfl
 m19 := by kernel_rfl
 c0 := by kernel_rfl
 c2 := by kernel_rfl
 c3 := by kernel_rfl
 c4 := by kernel_rfl
 c5 := by kernel_rfl
 c9 := by kernel_rfl
 c20 := by kernel_rfl
 c21 := by kernel_rfl
 c37 := by kernel_rfl
 c46 := by kernel_rfl
 c51 := by kernel_rfl
 c53 := by kernel_rfl
 c75 := by kernel_rfl
 c76 := by kernel_rfl
 c80 := by kernel_rfl
 c85 := by kernel_rfl
 c127 := by kernel_rfl
 c143 := by kernel_rfl
 c145 := by kernel_rfl
 c167 := by kernel_rfl
 c168 := by kernel_rfl
 c171 := by kernel_rfl
 c173 := by kernel_rfl
 c175 := by kernel_rfl
 c210 := by kernel_rfl
 c212 := by kernel_rfl
 c213 := by kernel_rfl
 c232 := by kernel_rfl
 c233 := by kernel_rfl }
open Go.RowKit in
theorem Tryz.strconv_Atoi_ok (s : ByteArray) (hmax : s.size ≤ 9223372036854775806) (v : Int) (h : Lib.atoiAll s.data.toList = .ok v) (w : World) :
  Calls Tryz.prog 122 #[.string s] w fun e w' => e = .returned (.tuple #[.int .i64 v, .nilIface]) ∧ (w' = w ∨ ∃ t, w' = Lib.bytesWorld w 5 t) := Any.strconv_Atoi_ok Tryz.laysC172 s hmax v h w
def Tryz.lays157_ren : Go.Shelf.Ren := ⟨fun | 157 => 197 | 229 => 211 | 199 => 212 | 261 => 221 | 311 => 223 | 312 => 224 | n => n, fun | 9 => 9 | 31 => 111 | 3 => 3 | 5 => 5 | 4 => 4 | 119 => 184 | 0 => 0 | 40 => 186 | 152 => 197 | 21 => 21 | 154 => 199 | 51 => 173 | 141 => 201 | 196 => 207 | 193 => 204 | 198 => 210 | 49 => 208 | 194 => 205 | 201 => 213 | 226 => 215 | 46 => 175 | 227 => 216 | n => n, fun | 0 => 4 | 6 => 7 | n => n⟩
theorem Tryz.lays157 : Go.Proofs.Lays.n157 Tryz.prog Tryz.lays157_ren := {
 mixed := by kernel_rfl
 f157 := Tryz.func197.trans (congrArg some (by kernel_rfl))
 f199 := Tryz.func212.trans (congrArg some (by kernel_rfl))
 f229 := Tryz.func211.trans (congrArg some (by kernel_rfl))
 f261 := Tryz.func221.trans (congrArg some (by kernel_rfl))
 f311 := Tryz.func223.trans (congrArg some (by kernel_rfl))
 f312 := Tryz.func224.trans (congrArg some (by kernel_rfl))
 t0 := Tryz.underlying0
 a0 := Tryz.isAgg0
 z0 := Tryz.sizeOf0
 v0 := Tryz.zeroValue0
 t3 := Tryz.underlying3
 a3 := Tryz.isAgg3
 z3 := Tryz.sizeOf3
 v3 := Tryz.zeroValue3
 t4 := Tryz.underlying4
 a4 := Tryz.isAgg4
 z4 := Tryz.sizeOf4
 v4 := Tryz.zeroValue4
 t5 := Tryz.underlying5
 a5 := Tryz.isAgg5
 z5 := Tryz.sizeOf5
 v5 := Tryz.zeroValue5
 t9 := Tryz.underlying9
 a9 := Tryz.isAgg9
 z9 := Tryz.sizeOf9
 v9 := Tryz.zeroValue9
 t21 := Tryz.underlying21
 a21 := Tryz.isAgg21
 z21 := Tryz.sizeOf21
 v21 := Tryz.zeroValue21
 t31 := Tryz.underlying111
 a31 := Tryz.isAgg111
 z31 := Tryz.sizeOf111
 v31 := Tryz.zeroValue111
 t40 := Tryz.underlying186
 a40 := Tryz.isAgg186
 z40 := Tryz.sizeOf186
 v40 := Tryz.zeroValue186
 t46 := Tryz.underlying175
 a46 := Tryz.isAgg175
 z46 := Tryz.sizeOf175
 v46 := Tryz.zeroValue175
 t49 := Tryz.underlying208
 a49 := Tryz.isAgg208
 z49 := Tryz.sizeOf208
 v49 := Tryz.zeroValue208
 t51 := Tryz.underlying173
 a51 := Tryz.isAgg173
 z51 := Tryz.sizeOf173
 v51 := Tryz.zeroValue173
 t119 := Tryz.underlying184
 a119 := Tryz.isAgg184
 z119 := Tryz.sizeOf184
 t141 := Tryz.underlying201
 a141 := Tryz.isAgg201
 z141 := Tryz.sizeOf201
 v141 := Tryz.zeroValue201
 t152 := Tryz.underlying197
 a152 := Tryz.isAgg197
 z152 := Tryz.sizeOf197
 v152 := Tryz.zeroValue197
 t154 := Tryz.underlying199
 a154 := Tryz.isAgg199
 z154 := Tryz.sizeOf199
 v154 := Tryz.zeroValue199
 t193 := Tryz.underlying204
 a193 := Tryz.isAgg204
 z193 := Tryz.sizeOf204
 v193 := Tryz.zeroValue204
 t194 := Tryz.underlying205
 a194 := Tryz.isAgg205
 z194 := Tryz.sizeOf205
 v194 := Tryz.zeroValue205
 t196 := Tryz.underlying207
 a196 := Tryz.isAgg207
 z196 := Tryz.sizeOf207
 v196 := Tryz.zeroValue207
 t198 := Tryz.underlying210
 a198 := Tryz.isAgg210
 z198 := Tryz.sizeOf210
 v198 := Tryz.zeroValue210
 t201 := Tryz.underlying213
 a201 := Tryz.isAgg213
 z201 := Tryz.sizeOf213
 v201 := Tryz.zeroValue213
 t226 := Tryz.underlying215
 a226 := Tryz.isAgg215
 z226 := Tryz.sizeOf215
 v226 := Tryz.zeroValue215
 t227 := Tryz.underlying216
 a227 := Tryz.isAgg216
 z227 := Tryz.sizeOf216
 v227 := Tryz.zeroValue216
 g0 := by kernel_rfl
 g6 := by kernel_rfl }
open Go.RowKit Go.Lib in
theorem Tryz.strings_Fields (s : ByteArray) (w : World) (hs : s.size < 4294967281) (hascii : ∀ (j : Nat) b, s.data.toList[j]? = some b → b.toNat < 128) (htab : Lib.TabIs Tryz.prog w "strings.asciiSpace" .u8 Lib.asciiSpaceTab) :
  Calls Tryz.prog 197 #[.string s] w fun e w' =>
   e = .returned (.slice (some ⟨w.heap.size, 0, none⟩) (Lib.fields s.data.toList).length (Lib.fields s.data.toList).length) ∧ w' = w.alloc (.cells ((Lib.fields s.data.toList).map fun l => Value.string ⟨l.toArray⟩).toArray 9) := Any.strings_Fields Tryz.lays157 (by kernel_rfl) (by kernel_rfl) s w hs hascii htab
def Tryz.lays110_ren : Go.Shelf.Ren := ⟨fun | 110 => 128 | 109 => 164 | n => n, fun | 31 => 111 | 9 => 9 | 4 => 4 | 3 => 3 | 0 => 0 | n => n, fun | n => n⟩
theorem Tryz.lays110 : Go.Proofs.Lays.n110 Tryz.prog Tryz.lays110_ren := {
 mixed := by kernel_rfl
 f109 := Tryz.func164.trans (congrArg some (by kernel_rfl))
 f110 := Tryz.func128.trans (congrArg some (by kernel_rfl))
 t0 := Tryz.underlying0
 a0 := Tryz.isAgg0
 z0 := Tryz.sizeOf0
 v0 := Tryz.zeroValue0
 t3 := Tryz.underlying3
 a3 := Tryz.isAgg3
 z3 := Tryz.sizeOf3
 v3 := Tryz.zeroValue3
 t4 := Tryz.underlying4
 a4 := Tryz.isAgg4
 z4 := Tryz.sizeOf4
 v4 := Tryz.zeroValue4
 t9 := Tryz.underlying9
 a9 := Tryz.isAgg9
 z9 := Tryz.sizeOf9
 v9 := Tryz.zeroValue9
 t31 := Tryz.underlying111
 a31 := Tryz.isAgg111
 z31 := Tryz.sizeOf111
 v31 := Tryz.zeroValue111 }
open Go.Lib in
theorem Tryz.slices_Contains_string (b off n c : Nat) (zs : List ByteArray) (x : ByteArray) (w : World) (hz : n ≤ zs.length) (hbig : n ≤ 9223372036854775807) (hc : ∀ j, j < zs.length → w.cell? ⟨b, off + j, none⟩ = some (.string (zs.getD j ByteArray.empty))) :
  Calls Tryz.prog 128 #[.slice (some ⟨b, off, none⟩) n c, .string x] w fun e w' => e = .returned (.bool (Lib.containsS (zs.take n) x)) ∧ w' = w := Any.slices_Contains_string Tryz.lays110 b off n c zs x w hz hbig hc
end Go.Proofs
end
namespace Go.Proofs.YtplbfmcgddnkeaaGreatDoor
open Go.RowKit
theorem Qe0 (w : World) (e : TypeId) (s : ByteArray) : Below w.heap.size w (Lib.bytesWorld w e s) := by
 unfold Lib.bytesWorld World.freeze
 split
 ·exact (Below.refl _ _).drew.alloc (Nat.le_refl _) _
 ·have h := ((Below.refl w.heap.size w).drew.alloc (Nat.le_refl _) (.cells (Lib.bytesCells w e s) e))
  refine h.trans ⟨rfl, rfl, rfl, by simp, fun k hk => ?_⟩
  simp only [Array.getElem?_modify]
  rw [if_neg (by omega)]
theorem Qtl (l : List UInt8) (w : World) (hl : l.length ≤ 1000000000) (hd : ∀ c ∈ l, Q9 c.toNat = true) :
  Calls Tryz.prog 82 #[.string ⟨l.toArray⟩] w fun e w' => e = .returned (.bool (Q4f l)) ∧ Below w.heap.size w w' := by
 have hl := hl
 have h1 := Tryz.strings_TrimLeft_one ⟨l.toArray⟩ 48 (by decide) w
 have H1 : Hid (Calls Tryz.prog 130 #[.string ⟨l.toArray⟩, .string ⟨#[48]⟩] w fun e w' => e = .returned (.string ⟨(l.dropWhile (· == (48 : UInt8))).toArray⟩) ∧ w' = w) := h1
 clear h1
 by_cases hg : 7 < (l.dropWhile (· == (48 : UInt8))).length
 ·have hr := qh (Qpd hd hg)
  have hle := (List.dropWhile_sublist (p := (· == (48 : UInt8))) (l := l)).length_le
  clear hd
  generalize l.dropWhile (· == (48 : UInt8)) = m at *
  go_enter Tryz.func82, Tryz.ntmps82
  (go_wp2_with fail; (with_reducible refine (H1.out).mono ?_); rintro e w' ⟨rfl, rfl⟩)
  go_wp2_with fail
  go_ret
  exact ⟨Q4 (by simp [Q4f, hr.out]), Below.refl _ _⟩
 ·have ha := Qpb _ (Qqy hd)
  rw [Qfg] at ha
  have hv : dv 0 l ≤ dv 0 l := Nat.le_refl _
  clear hd
  generalize l.dropWhile (· == (48 : UInt8)) = m at *
  generalize hn : dv 0 l = n at *
  have HA := qh (Tryz.strconv_Atoi ⟨(48 :: m).toArray⟩ n (by rw [Q61]; simp; omega) ha w)
  have hn := qh hn
  clear ha
  go_enter Tryz.func82, Tryz.ntmps82
  (go_wp2_with fail; (with_reducible refine (H1.out).mono ?_); rintro e w' ⟨rfl, rfl⟩)
  go_wp2_with fail
  (with_reducible refine (HA.out).mono ?_); rintro e w'' ⟨rfl, t, rfl⟩
  go_wp2_with fail
  go_ret
  exact ⟨Q4 (by simp [Q4f, hn.out]; omega), Qe0 _ _ _⟩
def Q3r (l : List UInt8) : Value := .tuple #[.int .i64 (Qx l).1, .int .i64 (Qx l).2.1, .int .i64 (Qx l).2.2]
theorem Qd4 {p : Int → Bool} {c : UInt8} {r : List UInt8} : (Q1 p (c :: r) = 0) = (p c.toNat = false) := by
 simp only [Q1]; cases p c.toNat <;> simp
theorem Qds (c : UInt8) (r : List UInt8) (w : World) (hl : (c :: r).length ≤ 1000000000) :
  Calls Tryz.prog 41 #[.string ⟨(c :: r).toArray⟩] w fun e w' => e = .returned (Q3r (c :: r)) ∧ Below w.heap.size w w' := by
 have hm := qh (show (c :: r).length ≤ maxLen by simp only [maxLen]; omega)
 cases hc : Q0a c.toNat
 ·have h0 : Q1 Q0a (c :: r) = 0 := by rw [Qd4]; exact hc
  have hw : Qx (c :: r) = if Q1 Q9 (c :: r) < (c :: r).length then (0, Q1 Q9 (c :: r), 4) else if Q4f (c :: r) then (0, 0, 2) else (1, 0, 0) := by rw [Qx, if_pos h0]
  have hle := Q2n Q9 (c :: r)
  have hc := qh hc
  clear h0
  by_cases hd : Q1 Q9 (c :: r) < (c :: r).length
  ·rw [if_pos hd] at hw
   have hw := qh hw
   have hd' : (Q1 Q9 (c :: r) : Int) < (c :: r).length := by omega
   simp only [List.length_cons] at hd hle hd' hl
   go_enter Tryz.func41, Tryz.ntmps41
   (go_wp2_with fail; (with_reducible refine (Q6q _ _).mono ?_); rintro e w' ⟨rfl, rfl⟩)
   rw [hc.out]
   (go_wp2_with fail; (with_reducible refine (Qe7 _ hm.out _).mono ?_); rintro e w' ⟨rfl, rfl⟩)
   go_wp2_with fail
   go_ret3
   exact ⟨by rw [Q3r, hw.out]; rfl, Below.refl _ _⟩
  ·have hall := qh (Qgj (show Q1 Q9 (c :: r) = (c :: r).length by omega))
   have hle' : (c :: r).length ≤ Q1 Q9 (c :: r) := by omega
   rw [if_neg hd] at hw
   have hlen := qh hl
   simp only [List.length_cons] at hd hle hl hle'
   cases hg : Q4f (c :: r)
   all_goals
    rw [hg] at hw
    have hw := qh hw
    have hg := qh hg
    go_enter Tryz.func41, Tryz.ntmps41
    (go_wp2_with fail; (with_reducible refine (Q6q _ _).mono ?_); rintro e w' ⟨rfl, rfl⟩)
    rw [hc.out]
    (go_wp2_with fail; (with_reducible refine (Qe7 _ hm.out _).mono ?_); rintro e w' ⟨rfl, rfl⟩)
    go_wp2_with fail
    (with_reducible refine (Qtl (c :: r) _ hlen.out hall.out).mono ?_)
    rintro e w1 ⟨rfl, hb⟩
    rw [hg.out]
    go_wp2_with fail
    go_ret3
    exact ⟨by rw [Q3r, hw.out]; rfl, hb⟩
 ·have h0 : ¬ Q1 Q0a (c :: r) = 0 := by rw [Qd4]; simp [hc]
  have hw : Qx (c :: r) = if 24 < (c :: r).length then (0, 0, 8) else (0, 0, 0) := by rw [Qx, if_neg h0]
  have hc := qh hc
  clear h0
  by_cases hd : 24 < (c :: r).length
  ·rw [if_pos hd] at hw
   have hw := qh hw
   simp only [List.length_cons] at hd hl
   go_enter Tryz.func41, Tryz.ntmps41
   (go_wp2_with fail; (with_reducible refine (Q6q _ _).mono ?_); rintro e w' ⟨rfl, rfl⟩)
   rw [hc.out]
   go_wp2_with fail
   go_ret3
   exact ⟨by rw [Q3r, hw.out]; rfl, Below.refl _ _⟩
  ·rw [if_neg hd] at hw
   have hw := qh hw
   simp only [List.length_cons] at hd hl
   go_enter Tryz.func41, Tryz.ntmps41
   (go_wp2_with fail; (with_reducible refine (Q6q _ _).mono ?_); rintro e w' ⟨rfl, rfl⟩)
   rw [hc.out]
   go_wp2_with fail
   go_ret3
   exact ⟨by rw [Q3r, hw.out]; rfl, Below.refl _ _⟩
end Go.Proofs.YtplbfmcgddnkeaaGreatDoor
