/- Joined: ParD, RefA, RefB. -/
import Derived.Test.YtekccolabhfopaaGreatDoorProg
import Derived.Test.YtekccolabhfopaaGreatDoorJ05
import Derived.Test.YtekccolabhfopaaGreatDoorJ01
import Derived.Test.YtekccolabhfopaaGreatDoorJ03
set_option linter.unusedVariables false
set_option linter.unusedSimpArgs false
section
/- Walks: parens, not of package parser. -/
set_option maxHeartbeats 2000000
set_option maxRecDepth 100000
namespace Go.Proofs.YtekccolabhfopaaGreatDoor
open Go.RowKit
/-- A reader that is handed in as a value: its contract at a level, from a world on. -/
def RdCalls (pb q tb c lv : Nat) (T : List Tok) (w : World) (J : Nat → Syn → World → Prop) (fn : Nat) (args : Array Value) (r : Nat → Out Syn) : Prop :=
  ∀ W i, PS pb tb c T i lv W → Only pb w W → r i ≠ .none → Calls Tryz.prog fn args W (GOut pb q tb c lv T W J (r i))
theorem RdCalls.of {pb q tb c lv : Nat} {T : List Tok} {w w' : World} {J : Nat → Syn → World → Prop} {fn : Nat} {args : Array Value} {r : Nat → Out Syn} (h : RdCalls pb q tb c lv T w J fn args r) (ho : Only pb w w') : RdCalls pb q tb c lv T w' J fn args r :=
  fun W i hp hw => h W i hp (ho.trans hw)
theorem pwithin_any (pb q tb c i lv : Nat) (T : List Tok) (w : World) (J : Nat → Syn → World → Prop) (fn : Nat) (first cap : Array Value) (r : Rd)
    (hc : ∀ args w, (callFunc fn args).run Tryz.prog w = .ok (.enter fn args) w) (h : PS pb tb c T i lv w) (hq : q < w.heap.size) (hl : lv ≤ 200) (hJ : Stable pb q J)
    (hne : within T r lv i ≠ .none) (hr : lv < 128 → RdCalls pb q tb c (lv + 1) T w J fn (first ++ cap) (r (lv + 1))) :
    Calls Tryz.prog 59 #[.pointer (some ⟨pb, 0, none⟩), .func (.func fn) first cap] w (GOut pb q tb c lv T w J (within T r lv i)) :=
  pwithin_gen pb q tb c i lv T w J fn first cap (r (lv + 1) i) _ rfl hc h hq hl hJ (by
    by_cases hd : 128 < lv + 1
    · exact .inl hd
    · exact .inr fun W hp hw => hr (by omega) W i hp hw fun e => hne (by unfold within; rw [if_neg hd]; exact e))
theorem Only2.keepB {p q : Nat} {w w' : World} (h : Only2 p q w w') {B : Nat} {o : Obj} (hB : w.heap[B]? = some o) (hp : B ≠ p) (hq : B ≠ q) : w'.heap[B]? = some o :=
  (h.block B (Array.getElem?_eq_some_iff.1 hB).1 hp hq).trans hB
theorem pparens_any (pb q tb c i lv : Nat) (T : List Tok) (w : World) (J : Nat → Syn → World → Prop) (fn : Nat) (first cap : Array Value) (r : Rd)
    (hc : ∀ args w, (callFunc fn args).run Tryz.prog w = .ok (.enter fn args) w) (h : PS pb tb c T i lv w) (hq : q < w.heap.size) (hl : lv ≤ 200) (hJ : Stable pb q J)
    (hne : parens T r lv i ≠ .none) (hr : lv < 128 → RdCalls pb q tb c (lv + 1) T w J fn (first ++ cap) (r (lv + 1))) :
    Calls Tryz.prog 127 #[.pointer (some ⟨pb, 0, none⟩), .func (.func fn) first cap] w (GOut pb q tb c lv T w J (parens T r lv i)) := by
  have hpos := h.pos
  have htb := h.toks.1
  have hN1 := fun W (h : PS pb tb c T i lv W) => pneed_any pb tb c i lv T W [40] h
  have hN2 := fun i W (h : PS pb tb c T i lv W) => pneed_any pb tb c i lv T W [41] h
  have hW := Lib.hid (fun i W (hp : PS pb tb c T i lv W) (hw : Only pb w W) hn => pwithin_any pb q tb c i lv T W J fn first cap r hc hp (Nat.lt_of_lt_of_le hq hw.size) hl hJ hn (fun hd => (hr hd).of hw))
  have h1 := Lib.hid (h.alloc (.cells #[.int .i64 0, .string ⟨#[]⟩, .int .i64 0, .int .i64 0, .slice none 0 0] 26))
  have o1 := Lib.hid (Only.alloc pb w (.cells #[.int .i64 0, .string ⟨#[]⟩, .int .i64 0, .int .i64 0, .slice none 0 0] 26))
  have hB0 := Lib.hid (heap_alloc_new w (.cells #[.int .i64 0, .string ⟨#[]⟩, .int .i64 0, .int .i64 0, .slice none 0 0] 26))
  have hs0 := Lib.hid (World.size_alloc w (.cells #[.int .i64 0, .string ⟨#[]⟩, .int .i64 0, .int .i64 0, .slice none 0 0] 26))
  have hres : parens T r lv i = (if isW T [[40]] i then .ok (tk T i) (nx T i) else fail T 4 i : Out Tok).bind fun _ i => (within T r lv i).bind fun x i => (need T [41] i).bind fun _ i => .ok x i := rfl
  clear hr
  replace h := Lib.hid h
  replace hres := Lib.hid hres
  cases hb : isW T [[40]] i
  · rw [hb] at hN1
    replace hN1 := Lib.hid hN1
    have hres : Hid (parens T r lv i = .err (tk T i).pos 4) := show _ = _ by rw [hres.out, hb]; rfl
    clear hb
    go_enter Tryz.func127, Tryz.ntmps127
    go_wp2_with fail
    (with_reducible refine (hN1.out _ h1.out).mono ?_); rintro e w1 ⟨o2, rfl⟩
    exact ⟨rfl, (o1.out.trans o2).two q, by rw [hres.out]⟩
  · rw [hb] at hN1
    replace hN1 := Lib.hid hN1
    have hres : Hid (parens T r lv i = (within T r lv (nx T i)).bind fun x i => (need T [41] i).bind fun _ i => .ok x i) := show _ = _ by rw [hres.out, hb]; rfl
    clear hb
    go_enter Tryz.func127, Tryz.ntmps127
    go_wp2_with fail
    (with_reducible refine (hN1.out _ h1.out).mono ?_); rintro e w1 ⟨o2, rfl, p2⟩
    have hB1 := o2.keep hB0.out (by omega)
    have hz1 := o2.size
    rw [hs0.out] at hz1
    replace hB1 := Lib.hid hB1
    replace p2 := Lib.hid p2
    replace o2 := Lib.hid (o1.out.trans o2)
    go_wp2_with fail
    have hcall := hW.out _ _ p2.out o2.out fun hn => hne (by rw [hres.out, hn]; rfl)
    clear hne
    generalize within T r lv (nx T i) = o at hcall hres
    replace hcall := Lib.hid hcall
    cases o with
    | none =>
      (with_reducible refine (hcall.out).mono ?_); rintro e w2 ⟨_, hf⟩
      exact hf.elim
    | err p er =>
      (with_reducible refine (hcall.out).mono ?_); rintro e w2 ⟨o3, rfl⟩
      exact ⟨rfl, (o2.out.two q).trans o3, by rw [hres.out]; rfl⟩
    | ok t j =>
      (with_reducible refine (hcall.out).mono ?_); rintro e w2 ⟨o3, ⟨v, rfl, ⟨kv, rfl, hk⟩, hj⟩, p3⟩
      cases t with
      | mk k tx n a kids =>
      simp only [Syn.kind, Syn.text, Syn.num, Syn.pos, Syn.kids] at hk ⊢
      obtain ⟨ka, kn, kc, rfl⟩ := hk.shape
      have hB2 := Lib.hid (o3.keepB hB1.out (by omega) (by omega))
      have hz2 := o3.size
      have hbl := Lib.hid (heap_alloc_new w2 (.cells #[.int .i64 k, .string ⟨tx.toArray⟩, .int .i64 n, .int .i64 a, .slice ka kn kc] 26))
      have hp3 := Lib.hid (p3.alloc (.cells #[.int .i64 k, .string ⟨tx.toArray⟩, .int .i64 n, .int .i64 a, .slice ka kn kc] 26))
      have hs3 := Lib.hid (World.size_alloc w2 (.cells #[.int .i64 k, .string ⟨tx.toArray⟩, .int .i64 n, .int .i64 a, .slice ka kn kc] 26))
      have ho3 := Lib.hid (Only.alloc pb w2 (.cells #[.int .i64 k, .string ⟨tx.toArray⟩, .int .i64 n, .int .i64 a, .slice ka kn kc] 26))
      have o4 := Lib.hid ((o2.out.two q).trans o3)
      replace hk := Lib.hid hk
      replace hj := Lib.hid hj
      replace p3 := Lib.hid p3
      clear o3
      have hN := hN2 j
      cases hb : isW T [[41]] j
      · rw [hb] at hN
        replace hN := Lib.hid hN
        have hres : Hid (parens T r lv i = .err (tk T j).pos 4) := show _ = _ by rw [hres.out]; show (need T [41] j).bind _ = _; unfold need; rw [hb]; rfl
        clear hb
        go_wp2_with fail
        (with_reducible refine (hN.out _ hp3.out).mono ?_); rintro e w3 ⟨o5, rfl⟩
        exact ⟨rfl, o4.out.trans ((ho3.out.trans o5).two q), by rw [hres.out]⟩
      · rw [hb] at hN
        replace hN := Lib.hid hN
        have hres : Hid (parens T r lv i = .ok (.mk k tx n a kids) (nx T j)) := show _ = _ by rw [hres.out]; show (need T [41] j).bind _ = _; unfold need; rw [hb]; rfl
        clear hb
        go_wp2_with fail
        (with_reducible refine (hN.out _ hp3.out).mono ?_); rintro e w3 ⟨o5, rfl, p5⟩
        have o6 := Lib.hid (ho3.out.trans o5)
        have hB3 := o6.out.keep hB2.out (by omega)
        have hL3 := o5.keep hbl.out (by omega)
        have hkp : Keep (Fr w1.heap.size) w2 w3 := fun k hk hs => o6.out.block k hs (by omega)
        have hk3 := Lib.hid (hk.out.keep (S' := Fr (w.heap.size + 1)) hkp fun k (hk : _ ≤ k) => show w.heap.size + 1 ≤ k by omega)
        have hj3 := Lib.hid (hJ _ _ _ _ _ hj.out (show w.heap.size + 1 ≤ _ by omega) hkp (fun hq' => o6.out.block q (by omega) hq'))
        replace p5 := Lib.hid p5
        clear hkp
        have o7 := Lib.hid (o4.out.trans (o6.out.two q))
        obtain ⟨⟨r0, r1, r2, r3, r4⟩, hfz⟩ := own5 hB3
        obtain ⟨⟨l0, l1, l2, l3, l4⟩, _⟩ := own5 hL3
        go_wp2_with fail
        refine bodyPost_ret (v := .agg #[.int .i64 k, .string ⟨tx.toArray⟩, .int .i64 n, .int .i64 a, .slice ka kn kc]) (by simp [results, Tryz.results127, go_sem, r0, r1, r2, r3, r4]) rfl ?_
        rw [hres.out]
        exact gout_store hJ o7.out p5.out hk3.out hj3.out (by omega) (by omega) (by omega) _ _ _ _ _
end Go.Proofs.YtekccolabhfopaaGreatDoor
end
section
/- Walks: the reference's functions on places in a text. -/
set_option maxHeartbeats 400000
namespace Go.Proofs.YtekccolabhfopaaGreatDoor
open Go.RowKit
theorem refLetter_any (c : Int) (w : World) :
    Calls Tryz.prog 68 #[.int .u8 c] w fun e w' => e = .returned (.bool (isLetter c)) ∧ w' = w := by
  go_enter Tryz.func68, Tryz.ntmps68
  go_wp2
  all_goals (go_ret; refine ⟨ret_b ?_, rfl⟩; simp only [isLetter]; simp [*]; try omega)
theorem refDigit_any (c : Int) (w : World) :
    Calls Tryz.prog 90 #[.int .u8 c] w fun e w' => e = .returned (.bool (isDigit c)) ∧ w' = w := by
  go_enter Tryz.func90, Tryz.ntmps90
  go_wp2
  all_goals (go_ret; refine ⟨ret_b ?_, rfl⟩; simp only [isDigit]; try simp [*]; try omega)
theorem refWord_any (s : List UInt8) (p : Nat) (w : World) (hs : s.length ≤ 1000000000) (hp : p ≤ s.length) :
    Calls Tryz.prog 66 #[.string ⟨s.toArray⟩, .int .i64 p] w fun e w' => e = .returned (.int .i64 (runLen isWordy (s.drop p))) ∧ w' = w := by
  go_enter Tryz.func66, Tryz.ntmps66
  go_wp2_with fail
  go_loop [5] (fun n => ∃ k : Nat, p + k ≤ s.length ∧ n = .int .i64 k ∧ Hid (runLen isWordy (s.drop p) = k + runLen isWordy (s.drop (p + k)))) (fun n => s.length - (intOf n).toNat)
  case atStart => exact ⟨0, by omega, rfl, show _ = _ by simp⟩
  case round =>
    obtain ⟨k, hk, rfl, hall⟩ := hrel
    by_cases hlt : p + k < s.length
    · cases hl : isLetter (s[p + k].toNat)
      · cases hd : isDigit (s[p + k].toNat)
        · have hn := Lib.hid (runLen_stop (p := isWordy) hlt (by simp [isWordy, hl, hd]))
          have hl := Lib.hid hl; have hd := Lib.hid hd
          (go_wp2_with fail; (with_reducible refine (refLetter_any _ _).mono ?_); rintro e w' ⟨rfl, rfl⟩)
          rw [hl.out]
          (go_wp2_with fail; (with_reducible refine (refDigit_any _ _).mono ?_); rintro e w' ⟨rfl, rfl⟩)
          rw [hd.out]
          go_wp2_with fail
          go_ret
          exact ⟨ret_i (by rw [hall.out, hn.out]; rfl), rfl⟩
        · have hn := Lib.hid (runLen_step (p := isWordy) hlt (by simp [isWordy, hl, hd]))
          have hl := Lib.hid hl; have hd := Lib.hid hd
          (go_wp2_with fail; (with_reducible refine (refLetter_any _ _).mono ?_); rintro e w' ⟨rfl, rfl⟩)
          rw [hl.out]
          (go_wp2_with fail; (with_reducible refine (refDigit_any _ _).mono ?_); rintro e w' ⟨rfl, rfl⟩)
          rw [hd.out]
          go_wp2_with fail
          go_round
          case rel => exact ⟨k + 1, by omega, by go_num, show _ = _ by rw [hall.out, hn.out, Nat.add_assoc p k 1]; omega⟩
          case measure => simp [intOf]; omega
      · have hn := Lib.hid (runLen_step (p := isWordy) hlt (by simp [isWordy, hl]))
        have hl := Lib.hid hl
        (go_wp2_with fail; (with_reducible refine (refLetter_any _ _).mono ?_); rintro e w' ⟨rfl, rfl⟩)
        rw [hl.out]
        go_wp2_with fail
        go_round
        case rel => exact ⟨k + 1, by omega, by go_num, show _ = _ by rw [hall.out, hn.out, Nat.add_assoc p k 1]; omega⟩
        case measure => simp [intOf]; omega
    · go_wp2_with fail
      go_ret
      exact ⟨ret_i (by rw [hall.out, List.drop_of_length_le (by omega)]; simp [runLen]), rfl⟩
theorem refDigits_any (s : List UInt8) (p : Nat) (w : World) (hs : s.length ≤ 1000000000) (hp : p ≤ s.length) :
    Calls Tryz.prog 69 #[.string ⟨s.toArray⟩, .int .i64 p] w fun e w' => e = .returned (.int .i64 (runLen isDigit (s.drop p))) ∧ w' = w := by
  go_enter Tryz.func69, Tryz.ntmps69
  go_wp2_with fail
  go_loop [5] (fun n => ∃ k : Nat, p + k ≤ s.length ∧ n = .int .i64 k ∧ Hid (runLen isDigit (s.drop p) = k + runLen isDigit (s.drop (p + k)))) (fun n => s.length - (intOf n).toNat)
  case atStart => exact ⟨0, by omega, rfl, show _ = _ by simp⟩
  case round =>
    obtain ⟨k, hk, rfl, hall⟩ := hrel
    by_cases hlt : p + k < s.length
    · cases hd : isDigit (s[p + k].toNat)
      · have hn := Lib.hid (runLen_stop (p := isDigit) hlt hd)
        have hd := Lib.hid hd
        (go_wp2_with fail; (with_reducible refine (refDigit_any _ _).mono ?_); rintro e w' ⟨rfl, rfl⟩)
        rw [hd.out]
        go_wp2_with fail
        go_ret
        exact ⟨ret_i (by rw [hall.out, hn.out]; rfl), rfl⟩
      · have hn := Lib.hid (runLen_step (p := isDigit) hlt hd)
        have hd := Lib.hid hd
        (go_wp2_with fail; (with_reducible refine (refDigit_any _ _).mono ?_); rintro e w' ⟨rfl, rfl⟩)
        rw [hd.out]
        go_wp2_with fail
        go_round
        case rel => exact ⟨k + 1, by omega, by go_num, show _ = _ by rw [hall.out, hn.out, Nat.add_assoc p k 1]; omega⟩
        case measure => simp [intOf]; omega
    · go_wp2_with fail
      go_ret
      exact ⟨ret_i (by rw [hall.out, List.drop_of_length_le (by omega)]; simp [runLen]), rfl⟩
def optVal : Option Nat → Value
  | none => .tuple #[.int .i64 0, .bool false]
  | some n => .tuple #[.int .i64 n, .bool true]
theorem refValue_any (s : List UInt8) (w : World) (hs : s.length ≤ 1000000000) (hd : ∀ c ∈ s, isDigit c.toNat = true) :
    Calls Tryz.prog 70 #[.string ⟨s.toArray⟩] w fun e w' => e = .returned (optVal (valGo 0 s)) ∧ w' = w := by
  have HD := Lib.hid hd
  clear hd
  go_enter Tryz.func70, Tryz.ntmps70
  go_wp2_with fail
  go_loop [4, 5] (fun n i => ∃ k m : Nat, k ≤ s.length ∧ m ≤ 1048576 ∧ i = .int .i64 k ∧ n = .int .i64 m ∧ Hid (valGo 0 s = valGo m (s.drop k))) (fun _ i => s.length - (intOf i).toNat)
  case atStart => exact ⟨0, 0, by omega, by omega, rfl, rfl, show _ = _ by simp⟩
  case round =>
    obtain ⟨k, m, hk, hm, rfl, rfl, hall⟩ := hrel
    by_cases hlt : k < s.length
    · have hdk := HD.out s[k] (List.getElem_mem hlt)
      have hst : Hid (valGo m (s.drop k) = if 1048576 < 10 * m + (s[k].toNat - 48) then none else valGo (10 * m + (s[k].toNat - 48)) (s.drop (k + 1))) := show _ = _ by
        rw [List.drop_eq_getElem_cons hlt, valGo]
      simp only [isDigit, Bool.and_eq_true, decide_eq_true_eq] at hdk
      obtain ⟨hd1, hd2⟩ := hdk
      go_wp2_with fail
      · have hgt : 1048576 < 10 * (m : Int) + ((s[k].toNat : Int) - 48) := by assumption
        go_ret2
        exact ⟨by rw [hall.out, hst.out, if_pos (by omega)]; rfl, rfl⟩
      · have hle : 10 * (m : Int) + ((s[k].toNat : Int) - 48) ≤ 1048576 := by assumption
        go_round
        case rel => exact ⟨k + 1, 10 * m + (s[k].toNat - 48), by omega, by omega, by go_num, by (congr 1; omega), show _ = _ by rw [hall.out, hst.out, if_neg (by omega)]⟩
        case measure => simp [intOf]; omega
    · go_wp2_with fail
      go_ret2
      exact ⟨by rw [hall.out, List.drop_of_length_le (by omega)]; rfl, rfl⟩
theorem signBytes_at (k : Nat) (h : k < 11) : ∀ w, (Instr.index 9 (.string ⟨signBytes.toArray⟩) (.int .i64 (k : Int))).run Tryz.prog w = .ok (.int .u8 ((signBytes.getD k 0).toNat : Int)) w := by
  intro w
  match k, h with
  | 0, _ => (show _ = _; kernel_rfl)
  | 1, _ => (show _ = _; kernel_rfl)
  | 2, _ => (show _ = _; kernel_rfl)
  | 3, _ => (show _ = _; kernel_rfl)
  | 4, _ => (show _ = _; kernel_rfl)
  | 5, _ => (show _ = _; kernel_rfl)
  | 6, _ => (show _ = _; kernel_rfl)
  | 7, _ => (show _ = _; kernel_rfl)
  | 8, _ => (show _ = _; kernel_rfl)
  | 9, _ => (show _ = _; kernel_rfl)
  | 10, _ => (show _ = _; kernel_rfl)
theorem refBlank_any (s : List UInt8) (p : Nat) (w : World) (hs : s.length ≤ 1000000000) (hp : p ≤ s.length) :
    Calls Tryz.prog 38 #[.string ⟨s.toArray⟩, .int .i64 p] w fun e w' => e = .returned (.int .i64 ((p + skip false (s.drop p) : Nat) : Int)) ∧ w' = w := by
  go_enter Tryz.func38, Tryz.ntmps38
  go_wp2_with fail
  go_loop [1] (fun n => ∃ k : Nat, k ≤ s.length ∧ n = .int .i64 k ∧ Hid (p + skip false (s.drop p) = k + skip false (s.drop k))) (fun n => s.length - (intOf n).toNat)
  case atStart => exact ⟨p, by omega, rfl, show _ = _ by simp⟩
  case round =>
    obtain ⟨k, hk, rfl, hall⟩ := hrel
    by_cases hlt : k < s.length
    · by_cases h35 : s[k].toNat = 35
      · have he := Lib.hid (skip_enter hlt h35)
        have hb : ((s[k].toNat : Int) == 35) = true := by simp [h35]
        have h35' := Lib.hid h35
        clear h35
        go_wp2_with fail
        go_loop [1] (fun n => ∃ j : Nat, k ≤ j ∧ j ≤ s.length ∧ n = .int .i64 j ∧ Hid (p + skip false (s.drop p) = j + skip true (s.drop j))) (fun n => s.length - (intOf n).toNat)
        case atStart => exact ⟨k, by omega, by omega, rfl, show _ = _ by rw [hall.out, he.out]⟩
        case round =>
          obtain ⟨j, hkj, hj, rfl, hin⟩ := hrel
          by_cases hjl : j < s.length
          · by_cases h10 : s[j].toNat = 10
            · have hb10 : ((s[j].toNat : Int) != 10) = false := by simp [h10]
              have ho := Lib.hid (skip_out hjl h10)
              have hne : k < j := by
                rcases Nat.lt_or_ge k j with h | h
                · exact h
                · have : k = j := by omega
                  subst this; have := h35'.out; omega
              clear h10
              go_wp2_with fail
              go_round
              case rel => exact ⟨j, by omega, rfl, show _ = _ by rw [hin.out, ho.out]⟩
              case measure => simp [intOf]; omega
            · have hb10 : ((s[j].toNat : Int) != 10) = true := by simp; omega
              have ho := Lib.hid (skip_in hjl h10)
              go_wp2_with fail
              go_round
              case rel => exact ⟨j + 1, by omega, by omega, by go_num, show _ = _ by rw [hin.out, ho.out]; omega⟩
              case measure => simp [intOf]; omega
          · go_wp2_with fail
            go_round
            case rel => exact ⟨j, by omega, rfl, show _ = _ by rw [hin.out, List.drop_of_length_le (by omega)]; simp [skip]⟩
            case measure => simp [intOf]; omega
      · have hb : ((s[k].toNat : Int) == 35) = false := by simp; omega
        cases hbl : isBlank (s[k].toNat)
        · have hst := Lib.hid (skip_stop hlt hbl h35)
          have h32 : ((s[k].toNat : Int) != 32) = true := by simp [isBlank] at hbl; simp; omega
          have h9 : ((s[k].toNat : Int) != 9) = true := by simp [isBlank] at hbl; simp; omega
          have h13 : ((s[k].toNat : Int) != 13) = true := by simp [isBlank] at hbl; simp; omega
          have h10 : ((s[k].toNat : Int) != 10) = true := by simp [isBlank] at hbl; simp; omega
          clear hbl h35
          go_wp2_with fail
          go_ret
          exact ⟨ret_i (by have h1 := hall.out; have h2 := hst.out; omega), rfl⟩
        · have hst := Lib.hid (skip_hit hlt hbl)
          have hbl := Lib.hid hbl
          go_wp2_with fail
          all_goals first
            | (go_round
               case rel => exact ⟨k + 1, by omega, by go_num, show _ = _ by rw [hall.out, hst.out]; omega⟩
               case measure => simp [intOf]; omega)
            | (exfalso; have := hbl.out; simp [isBlank] at this; simp_all; done)
            | go_ways
    · go_wp2_with fail
      go_ret
      exact ⟨ret_i (by have := hall.out; rw [List.drop_of_length_le (i := k) (by omega)] at this; simp [skip] at this; omega), rfl⟩
theorem signLen_two {l : List UInt8} {k : Nat} (h : k + 1 < l.length) (h1 : l[k + 1].toNat = 61) (h2 : l[k].toNat = 60 ∨ l[k].toNat = 33) : signLen (l.drop k) = 2 := by
  have e : l.drop k = l[k]'(by omega) :: l[k + 1] :: l.drop (k + 2) := by
    rw [List.drop_eq_getElem_cons (by omega), List.drop_eq_getElem_cons h]
  have a1 : l[k + 1] = 61 := UInt8.toNat_inj.1 h1
  have a2 : l[k]'(by omega) = 60 ∨ l[k]'(by omega) = 33 := h2.imp (fun h => UInt8.toNat_inj.1 h) (fun h => UInt8.toNat_inj.1 h)
  rw [e, signLen, if_pos ⟨a1, a2⟩]
theorem signLen_one {l : List UInt8} {k : Nat} (h0 : k < l.length) (h : ¬ ∃ h : k + 1 < l.length, l[k + 1].toNat = 61 ∧ (l[k].toNat = 60 ∨ l[k].toNat = 33)) : signLen (l.drop k) = if signBytes.contains l[k] then 1 else 0 := by
  by_cases h1 : k + 1 < l.length
  · have e : l.drop k = l[k]'(by omega) :: l[k + 1] :: l.drop (k + 2) := by
      rw [List.drop_eq_getElem_cons (by omega), List.drop_eq_getElem_cons h1]
    rw [e, signLen, if_neg]
    rintro ⟨a, b⟩
    exact h ⟨h1, by rw [a]; rfl, b.imp (fun h => by rw [h]; rfl) (fun h => by rw [h]; rfl)⟩
  · have e : l.drop k = [l[k]] := by
      rw [List.drop_eq_getElem_cons h0, List.drop_of_length_le (by omega)]
    rw [e, signLen]
theorem contains_step {k : Nat} (h : k < 11) (c : UInt8) : (signBytes.drop k).contains c = (((signBytes.getD k 0).toNat == c.toNat) || (signBytes.drop (k + 1)).contains c) := by
  have hl : k < signBytes.length := h
  rw [List.drop_eq_getElem_cons hl, List.contains_cons]
  have : (c == signBytes[k]) = ((signBytes.getD k 0).toNat == c.toNat) := by
    simp only [List.getD, List.getElem?_eq_getElem hl, Option.getD_some]
    rw [Bool.eq_iff_iff]; simp only [beq_iff_eq]
    exact ⟨fun h => by rw [h], fun h => (UInt8.toNat_inj.1 h).symm⟩
  rw [this]
def signAtR (k : Nat) : Int := ((signBytes.getD k 0).toNat : Int)
theorem refSign_two (s : List UInt8) (p : Nat) (w : World) (hs : s.length ≤ 1000000000) (h : p + 1 < s.length) (h1 : s[p + 1].toNat = 61) (h2 : s[p].toNat = 60 ∨ s[p].toNat = 33) :
    Calls Tryz.prog 67 #[.string ⟨s.toArray⟩, .int .i64 p] w fun e w' => e = .returned (.int .i64 2) ∧ w' = w := by
  have hb1 : ((s[p + 1].toNat : Int) == 61) = true := by simp [h1]
  rcases h2 with h2 | h2
  · have hb2 : ((s[p].toNat : Int) == 60) = true := by simp [h2]
    clear h1 h2
    go_enter Tryz.func67, Tryz.ntmps67
    go_wp2_with fail
    go_ret
    exact ⟨rfl, rfl⟩
  · have hb2 : ((s[p].toNat : Int) == 60) = false := by simp [h2]
    have hb3 : ((s[p].toNat : Int) == 33) = true := by simp [h2]
    clear h1 h2
    go_enter Tryz.func67, Tryz.ntmps67
    go_wp2_with fail
    go_ret
    exact ⟨rfl, rfl⟩
theorem refSign_tail (s : List UInt8) (p : Nat) (w : World) (hs : s.length ≤ 1000000000) (hp : p < s.length) (h : ¬ ∃ h : p + 1 < s.length, s[p + 1].toNat = 61 ∧ (s[p].toNat = 60 ∨ s[p].toNat = 33)) :
    Calls Tryz.prog 67 #[.string ⟨s.toArray⟩, .int .i64 p] w fun e w' => e = .returned (.int .i64 (signLen (s.drop p))) ∧ ∃ n, w' = w.drewN n := by
  have HL := Lib.hid (signLen_one hp h)
  have HX := Lib.hid h
  clear h
  have HS : ∀ (k : Nat) (_ : k < 11), ∀ w, (Instr.index 9 (.string ⟨#[59, 44, 58, 40, 41, 123, 125, 43, 45, 61, 60]⟩) (.int .i64 (k : Int))).run Tryz.prog w = .ok (.int .u8 (signAtR k)) w := signBytes_at
  have HS := Lib.hid HS
  have hp0 : (0 : Int) ≤ (p : Int) := by omega
  have hcases : (∃ _ : p + 1 < s.length, ((s[p + 1].toNat : Int) == 61) = true ∧ ((s[p].toNat : Int) == 60) = false ∧ ((s[p].toNat : Int) == 33) = false) ∨ (∃ _ : p + 1 < s.length, ((s[p + 1].toNat : Int) == 61) = false) ∨ ¬ p + 1 < s.length := by
    by_cases h1 : p + 1 < s.length
    · by_cases h2 : s[p + 1].toNat = 61
      · refine .inl ⟨h1, by simp [h2], ?_, ?_⟩
        · rw [beq_eq_false_iff_ne]; intro e; exact HX.out ⟨h1, h2, .inl (by omega)⟩
        · rw [beq_eq_false_iff_ne]; intro e; exact HX.out ⟨h1, h2, .inr (by omega)⟩
      · exact .inr (.inl ⟨h1, by rw [beq_eq_false_iff_ne]; omega⟩)
    · exact .inr (.inr h1)
  rcases hcases with ⟨h1, hb1, hb2, hb3⟩ | ⟨h1, hb1⟩ | h1
  all_goals
    go_enter Tryz.func67, Tryz.ntmps67
    go_wp2_with fail
    go_loopw [6] (fun i wr => (∃ k : Nat, k ≤ 11 ∧ i = .int .i64 k ∧ Hid (signBytes.contains s[p] = (signBytes.drop k).contains s[p])) ∧ ∃ n, wr = w.drewN n) (fun i _ => 11 - (intOf i).toNat)
    case atStart => exact ⟨⟨0, by omega, rfl, show _ = _ from rfl⟩, 0, rfl⟩
    case round =>
      obtain ⟨⟨k, hk, rfl, hall⟩, n, rfl⟩ := hrel
      by_cases hlt : k < 11
      · have hidx := HS.out k hlt
        have hst := Lib.hid (contains_step hlt s[p])
        by_cases hc : (signBytes.getD k 0).toNat = s[p].toNat
        · have hb : (signAtR k == (s[p].toNat : Int)) = true := by simp only [signAtR, beq_iff_eq]; omega
          have hr := Lib.hid (show signLen (s.drop p) = 1 by rw [HL.out, hall.out, hst.out, if_pos (by rw [Bool.or_eq_true]; exact .inl (beq_iff_eq.2 hc))])
          clear hc
          go_wp2_with fail
          go_quiet (fail)
          go_wp2_with fail
          go_ret
          exact ⟨ret_i (by rw [hr.out]; rfl), n + nq, by rw [World.drewN_drewN]⟩
        · have hb : (signAtR k == (s[p].toNat : Int)) = false := by simp only [signAtR, beq_eq_false_iff_ne]; omega
          have hc := Lib.hid hc
          go_wp2_with fail
          go_quiet (fail)
          go_wp2_with fail
          go_roundw
          case rel => exact ⟨⟨k + 1, by omega, by go_num, show _ = _ by rw [hall.out, hst.out, beq_eq_false_iff_ne.2 hc.out, Bool.false_or]⟩, _, rfl⟩
          case measure => simp [intOf]; omega
      · go_wp2_with fail
        go_ret
        have hr : signLen (s.drop p) = 0 := by rw [HL.out, hall.out, List.drop_of_length_le (by simp [signBytes]; omega)]; rfl
        exact ⟨ret_i (by rw [hr]; rfl), _, rfl⟩
end Go.Proofs.YtekccolabhfopaaGreatDoor
end
section
/- Walks: Next and Scan of the reference. -/
set_option maxHeartbeats 1000000
set_option maxRecDepth 100000
namespace Go.Proofs.YtekccolabhfopaaGreatDoor
open Go.RowKit
theorem results_tmp4 {fn : Func} {a b c d : Tmp} (h : fn.results = #[.tmp a, .tmp b, .tmp c, .tmp d]) (tmps : Array Value) (P : Program) (w : World) :
    (results fn tmps).run P w = .ok (.tuple #[tmps.getD a undef, tmps.getD b undef, tmps.getD c undef, tmps.getD d undef]) w := by
  simp [results, h]
theorem refSign_any (s : List UInt8) (p : Nat) (w : World) (hs : s.length ≤ 1000000000) (hp : p < s.length) :
    Calls Tryz.prog 67 #[.string ⟨s.toArray⟩, .int .i64 p] w fun e w' => e = .returned (.int .i64 (signLen (s.drop p))) ∧ ∃ n, w' = w.drewN n := by
  by_cases h : ∃ h : p + 1 < s.length, s[p + 1].toNat = 61 ∧ (s[p].toNat = 60 ∨ s[p].toNat = 33)
  · obtain ⟨h1, h2, h3⟩ := h
    refine (refSign_two s p w hs h1 h2 h3).mono ?_
    rintro e w' ⟨rfl, rfl⟩
    exact ⟨by rw [signLen_two h1 h2 h3]; rfl, 0, rfl⟩
  · exact refSign_tail s p w hs hp h
def nextVal (p : Nat) : Except (Nat × Nat) (Nat × Nat) → Value
  | .error (d, e) => .tuple #[.int .i64 0, .int .i64 0, .int .i64 ((p + d : Nat) : Int), .int .i64 e]
  | .ok (k, n) => .tuple #[.int .i64 k, .int .i64 n, .int .i64 0, .int .i64 0]
theorem refNext_any (s : List UInt8) (p : Nat) (w : World) (hs : s.length ≤ 1000000) (hp : p < s.length) :
    Calls Tryz.prog 39 #[.string ⟨s.toArray⟩, .int .i64 p] w fun e w' => e = .returned (nextVal p (tok (s.drop p))) ∧ ∃ n, w' = w.drewN n := by
  have hW := Lib.hid (fun W => refWord_any s p W (by omega) (by omega))
  have hS := Lib.hid (fun W => refSign_any s p W (by omega) hp)
  have hD := Lib.hid (fun W => refDigits_any s p W (by omega) (by omega))
  have hwle := runLen_le isWordy (s.drop p)
  simp only [List.length_drop] at hwle
  by_cases hw : runLen isWordy (s.drop p) = 0
  · by_cases hsg : signLen (s.drop p) = 0
    · have ht : Hid (tok (s.drop p) = .error (0, 4)) := show _ = _ by rw [tok, if_pos hw, if_pos hsg]
      have hw' := hW.out; rw [hw] at hw'
      have hs' := hS.out; rw [hsg] at hs'
      clear hW hS
      replace hw' := Lib.hid hw'; replace hs' := Lib.hid hs'
      clear hw hsg hwle hD
      go_enter Tryz.func39, Tryz.ntmps39
      go_wp2_with fail
      (with_reducible refine (hw'.out _).mono ?_); rintro e w1 ⟨rfl, rfl⟩
      go_wp2_with fail
      (with_reducible refine (hs'.out _).mono ?_); rintro e w1 ⟨rfl, nd, rfl⟩
      go_wp2_with fail
      refine bodyPost_ret (results_tmp4 rfl _ _ _) rfl ?_
      exact ⟨by rw [ht.out]; rfl, _, rfl⟩
    · have ht : Hid (tok (s.drop p) = .ok (2, signLen (s.drop p))) := show _ = _ by rw [tok, if_pos hw, if_neg hsg]
      have hw' := hW.out; rw [hw] at hw'
      replace hw' := Lib.hid hw'
      have hpos : 0 < signLen (s.drop p) := by omega
      clear hw hsg hwle hD hW
      generalize signLen (s.drop p) = m at *
      go_enter Tryz.func39, Tryz.ntmps39
      go_wp2_with fail
      (with_reducible refine (hw'.out _).mono ?_); rintro e w1 ⟨rfl, rfl⟩
      go_wp2_with fail
      (with_reducible refine (hS.out _).mono ?_); rintro e w1 ⟨rfl, nd, rfl⟩
      go_wp2_with fail
      refine bodyPost_ret (results_tmp4 rfl _ _ _) rfl ?_
      exact ⟨by rw [ht.out]; rfl, _, rfl⟩
  · have hb0 : ((runLen isWordy (s.drop p) : Int) == 0) = false := by rw [beq_eq_false_iff_ne]; omega
    have hl : (runLen isLetter (s.drop p) = 0) = (isLetter (s[p].toNat) = false) := by
      rw [List.drop_eq_getElem_cons hp]; simp only [runLen]; cases isLetter (s[p].toNat) <;> simp
    cases hlc : isLetter (s[p].toNat)
    · have h0 : runLen isLetter (s.drop p) = 0 := by rw [hl]; exact hlc
      replace hlc := Lib.hid hlc
      by_cases hd : runLen isDigit (s.drop p) < runLen isWordy (s.drop p)
      · have ht : Hid (tok (s.drop p) = .error (runLen isDigit (s.drop p), 4)) := show _ = _ by rw [tok, if_neg hw, if_pos h0, if_pos hd]
        clear hl h0 hw
        generalize runLen isDigit (s.drop p) = dg at *
        generalize runLen isWordy (s.drop p) = m at *
        go_enter Tryz.func39, Tryz.ntmps39
        go_wp2_with fail
        (with_reducible refine (hW.out _).mono ?_); rintro e w1 ⟨rfl, rfl⟩
        go_wp2_with fail
        (with_reducible refine (refLetter_any _ _).mono ?_); rintro e w1 ⟨rfl, rfl⟩
        rw [hlc.out]
        go_wp2_with fail
        (with_reducible refine (hD.out _).mono ?_); rintro e w1 ⟨rfl, rfl⟩
        go_wp2_with fail
        refine bodyPost_ret (results_tmp4 rfl _ _ _) rfl ?_
        exact ⟨by rw [ht.out]; rfl, 0, rfl⟩
      · have hall : ∀ c ∈ (s.drop p).take (runLen isWordy (s.drop p)), isDigit c.toNat = true := by
          intro c hc
          refine runLen_take_all isDigit (s.drop p) c ?_
          exact (List.take_sublist_take_left (by omega)).subset hc
        have hV := Lib.hid (fun W => refValue_any ((s.drop p).take (runLen isWordy (s.drop p))) W (by simp only [List.length_take, List.length_drop]; omega) hall)
        have ht : tok (s.drop p) = if (valGo 0 ((s.drop p).take (runLen isWordy (s.drop p)))).isNone then .error (0, 2) else .ok (1, runLen isWordy (s.drop p)) := by rw [tok, if_neg hw, if_pos h0, if_neg hd]
        clear hl h0 hw hall
        generalize runLen isDigit (s.drop p) = dg at *
        generalize runLen isWordy (s.drop p) = m at *
        cases hv : valGo 0 ((s.drop p).take m) with
        | none =>
          rw [hv] at ht hV
          replace ht := Lib.hid ht
          clear hv
          go_enter Tryz.func39, Tryz.ntmps39
          go_wp2_with fail
          (with_reducible refine (hW.out _).mono ?_); rintro e w1 ⟨rfl, rfl⟩
          go_wp2_with fail
          (with_reducible refine (refLetter_any _ _).mono ?_); rintro e w1 ⟨rfl, rfl⟩
          rw [hlc.out]
          go_wp2_with fail
          (with_reducible refine (hD.out _).mono ?_); rintro e w1 ⟨rfl, rfl⟩
          go_wp2_with fail
          (with_reducible refine (hV.out _).mono ?_); rintro e w1 ⟨rfl, rfl⟩
          simp only [optVal]
          go_wp2_with fail
          refine bodyPost_ret (results_tmp4 rfl _ _ _) rfl ?_
          exact ⟨by rw [ht.out]; rfl, 0, rfl⟩
        | some v =>
          rw [hv] at ht hV
          replace ht := Lib.hid ht
          clear hv
          go_enter Tryz.func39, Tryz.ntmps39
          go_wp2_with fail
          (with_reducible refine (hW.out _).mono ?_); rintro e w1 ⟨rfl, rfl⟩
          go_wp2_with fail
          (with_reducible refine (refLetter_any _ _).mono ?_); rintro e w1 ⟨rfl, rfl⟩
          rw [hlc.out]
          go_wp2_with fail
          (with_reducible refine (hD.out _).mono ?_); rintro e w1 ⟨rfl, rfl⟩
          go_wp2_with fail
          (with_reducible refine (hV.out _).mono ?_); rintro e w1 ⟨rfl, rfl⟩
          simp only [optVal]
          go_wp2_with fail
          refine bodyPost_ret (results_tmp4 rfl _ _ _) rfl ?_
          exact ⟨by rw [ht.out]; rfl, 0, rfl⟩
    · have h0 : ¬ runLen isLetter (s.drop p) = 0 := by rw [hl, hlc]; simp
      replace hlc := Lib.hid hlc
      by_cases hd : 24 < runLen isWordy (s.drop p)
      · have ht : Hid (tok (s.drop p) = .error (0, 8)) := show _ = _ by rw [tok, if_neg hw, if_neg h0, if_pos hd]
        clear hl h0 hw
        generalize runLen isWordy (s.drop p) = m at *
        go_enter Tryz.func39, Tryz.ntmps39
        go_wp2_with fail
        (with_reducible refine (hW.out _).mono ?_); rintro e w1 ⟨rfl, rfl⟩
        go_wp2_with fail
        (with_reducible refine (refLetter_any _ _).mono ?_); rintro e w1 ⟨rfl, rfl⟩
        rw [hlc.out]
        go_wp2_with fail
        refine bodyPost_ret (results_tmp4 rfl _ _ _) rfl ?_
        exact ⟨by rw [ht.out]; rfl, 0, rfl⟩
      · have ht : Hid (tok (s.drop p) = .ok (0, runLen isWordy (s.drop p))) := show _ = _ by rw [tok, if_neg hw, if_neg h0, if_neg hd]
        clear hl h0 hw
        generalize runLen isWordy (s.drop p) = m at *
        go_enter Tryz.func39, Tryz.ntmps39
        go_wp2_with fail
        (with_reducible refine (hW.out _).mono ?_); rintro e w1 ⟨rfl, rfl⟩
        go_wp2_with fail
        (with_reducible refine (refLetter_any _ _).mono ?_); rintro e w1 ⟨rfl, rfl⟩
        rw [hlc.out]
        go_wp2_with fail
        refine bodyPost_ret (results_tmp4 rfl _ _ _) rfl ?_
        exact ⟨by rw [ht.out]; rfl, 0, rfl⟩
end Go.Proofs.YtekccolabhfopaaGreatDoor
end
