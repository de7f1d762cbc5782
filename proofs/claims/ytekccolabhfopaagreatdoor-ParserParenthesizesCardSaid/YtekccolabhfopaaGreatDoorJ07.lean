/- Joined: RefC, Mir, RefK, RpBin. -/
import Derived.Test.YtekccolabhfopaaGreatDoorJ06
import Derived.Test.YtekccolabhfopaaGreatDoorJ04
import Derived.Test.YtekccolabhfopaaGreatDoorJ03
import Derived.Test.YtekccolabhfopaaGreatDoorJ05
set_option linter.unusedVariables false
set_option linter.unusedSimpArgs false
section
/- Walks: Scan of the reference; Same. -/
set_option maxHeartbeats 1000000
set_option maxRecDepth 100000
namespace Go.Proofs.YtekccolabhfopaaGreatDoor
open Go.RowKit
theorem refScan_any (s : List UInt8) (w : World) (hs : s.length ≤ 1000000) :
    Calls Tryz.prog 23 #[.string ⟨s.toArray⟩] w (ScanOut w (scan s)) := by
  by_cases hlong : 65536 < s.length
  · have hr : Hid (scan s = .error (0, 13)) := show _ = _ by rw [scan, if_pos hlong]
    go_enter Tryz.func23, Tryz.ntmps23
    go_wp2_with fail
    go_ret3
    rw [hr.out]
    exact ⟨Below.refl _ _, rfl⟩
  · have hle : s.length ≤ 65536 := by omega
    have hr := Lib.hid (scan_eq hle)
    obtain ⟨i0, hi, hz0, hz1, hz2⟩ := info_parts tok_info
    have HI := Lib.hid hi
    have HZ := Lib.hid (And.intro hz0 (And.intro hz1 hz2))
    clear hi hz0 hz1 hz2 hlong
    have hsk := skip_le false s
    have hB0 := Lib.hid (show ∀ W, Calls Tryz.prog 38 #[.string ⟨s.toArray⟩, .int .i64 0] W fun e w' => e = .returned (.int .i64 (skip false s)) ∧ w' = W from fun W => (refBlank_any s 0 W (by omega) (by omega)).mono (fun e w' h => by simpa using h))
    go_enter Tryz.func23, Tryz.ntmps23
    go_wp2_with fail
    (with_reducible refine (hB0.out _).mono ?_); rintro e w' ⟨rfl, rfl⟩
    clear hB0
    go_wp2_with fail
    go_loopw [5, 6] (fun v i wr => ∃ k : Nat, ∃ ts : List Tok, k ≤ s.length ∧ i = .int .i64 k ∧ wr.ownsRow w'.heap.size 38 3 v ts.length (tokCells ts) ∧ ts.length ≤ k ∧ Below w'.heap.size w' wr ∧ Hid (skip false (s.drop k) = 0 ∧ scanL 0 s = app ts (scanL k (s.drop k)))) (fun _ i _ => s.length - (intOf i).toNat)
    case atStart => exact ⟨skip false s, [], hsk, rfl, World.ownsRow_nil _ _ _ _, by simp, Below.refl _ _, skip_idem s false, by rw [app_nil, scanL_skip]; simp⟩
    case round =>
      obtain ⟨k, ts, hk, rfl, hown, hts, hb, hall⟩ := hrel
      by_cases hlt : k < s.length
      · have hN := Lib.hid (fun W => refNext_any s k W hs hlt)
        have hne' : Hid (s.drop k ≠ []) := by intro e; have := congrArg List.length e; simp at this; omega
        cases ht : tok (s.drop k) with
        | error x =>
          obtain ⟨d, er⟩ := x
          rw [ht] at hN
          have her : 0 < er := by
            unfold tok at ht; (repeat' split at ht) <;> simp at ht <;> omega
          have hb0 : ((er : Int) != 0) = true := by rw [bne_iff_ne]; omega
          have hto : Hid (scan s = .error (k + d, er)) := show _ = _ by
            rw [hr.out, hall.out.2, scanL_error hall.out.1 hne'.out ht]; rfl
          clear ht her
          go_wp2_with fail
          (with_reducible refine (hN.out _).mono ?_); rintro e w1 ⟨rfl, nd, rfl⟩
          simp only [nextVal]
          go_wp2_with fail
          go_ret3
          rw [hto.out]
          exact ⟨below_drawn hb nd, rfl⟩
        | ok x =>
          obtain ⟨kd, n⟩ := x
          rw [ht] at hN
          have hp := tok_pos ht
          have hto : Hid (scan s = app (ts ++ [⟨kd, (s.drop k).take n, k⟩]) (scanL (k + n) (s.drop (k + n)))) := show _ = _ by
            rw [hr.out, hall.out.2, scanL_ok hall.out.1 hne'.out ht, app_app, List.drop_drop]
          simp only [List.length_drop] at hp
          obtain ⟨hnpos, hnle⟩ := hp
          have hkn : k + n ≤ s.length := by omega
          have hBl := fun W => refBlank_any s (k + n) W (by omega) hkn
          simp only [Int.natCast_add] at hBl
          replace hBl := Lib.hid hBl
          have hsm := skip_le false (s.drop (k + n))
          simp only [List.length_drop] at hsm
          obtain ⟨hz0, hz1, hz2⟩ := HZ.out
          have hi := HI.out
          clear ht
          generalize htx : (s.drop k).take n = txt at *
          go_wp2_with fail
          (with_reducible refine (hN.out _).mono ?_); rintro e w1 ⟨rfl, nd, rfl⟩
          simp only [nextVal]
          go_wp2_with (at_builtin; refine wpList_append_own _ rfl _ _ 33 rfl w'.heap.size 38 i0 _ 3 32 Tryz.underlying33 hi hz0 hz1 hz2 rfl (by decide) _ _ _ rfl (show World.ownsRow ((wr.alloc _).drewN nd) _ _ _ _ _ _ from (hown.alloc _)) ⟨wr.heap.size, 0, none⟩ 1 1 [.int .i64 kd, .string ⟨txt.toArray⟩, .int .i64 k] rfl rfl ?c1 ?c2 ?c3 ?c4 ?c5 ?_)
          case c1 => exact fun j u h => news3 wr _ _ _ _ j u h
          case c2 => exact one3 _ _ _
          case c3 => unfold maxLen; omega
          case c4 => omega
          case c5 => have := hb.size; simp; omega
          intro v' w3 hown' hgrow _
          replace hown' := Lib.hid hown'
          have hB3 := Lib.hid ((below_drawn (hb.alloc hb.size (Obj.cells #[.int .i64 kd, .string ⟨txt.toArray⟩, .int .i64 k] 38)) nd).grown hgrow (by have := hb.size; simp; omega) (fun g hg => (hown.lt g hg).1))
          clear hgrow
          go_wp2_with fail
          (with_reducible refine (hBl.out _).mono ?_); rintro e w1 ⟨rfl, rfl⟩
          go_wp2_with fail
          go_roundw
          case rel => exact ⟨k + n + skip false (s.drop (k + n)), ts ++ [⟨kd, txt, k⟩], by omega, by go_num, by rw [tokCells_append, List.length_append]; exact hown'.out, by simp; omega, hB3.out, by have h := skip_idem (s.drop (k + n)) false; rwa [List.drop_drop] at h, by rw [← hr.out, hto.out, scanL_skip, List.drop_drop]⟩
          case measure => simp [intOf]; omega
      · have hkl : k = s.length := by omega
        have hres : Hid (scan s = .ok (ts ++ [⟨3, [], s.length⟩])) := show _ = _ by
          rw [hr.out, hall.out.2, List.drop_of_length_le (by omega), scanL_nil, hkl]; rfl
        obtain ⟨hz0, hz1, hz2⟩ := HZ.out
        have hi := HI.out
        replace hkl := Lib.hid hkl
        go_wp2_with (at_builtin; refine wpList_append_own _ rfl _ _ 33 rfl w'.heap.size 38 i0 _ 3 32 Tryz.underlying33 hi hz0 hz1 hz2 rfl (by decide) _ _ _ rfl (hown.alloc _) ⟨wr.heap.size, 0, none⟩ 1 1 [.int .i64 3, .string ⟨#[]⟩, .int .i64 s.length] rfl rfl ?c1 ?c2 ?c3 ?c4 ?c5 ?_)
        case c1 => exact news3 _ _ _ _ _
        case c2 => exact one3 _ _ _
        case c3 => unfold maxLen; omega
        case c4 => omega
        case c5 => have := hb.size; simp; omega
        intro v' w1 hown' hgrow _
        go_wp2_with fail
        go_ret3
        rw [hres.out]
        refine ⟨(hb.alloc hb.size _).grown hgrow (by have := hb.size; simp; omega) (fun g hg => (hown.lt g hg).1), v', rfl, ?_⟩
        rw [tokCells_append]
        simpa [tokCells] using hown'
end Go.Proofs.YtekccolabhfopaaGreatDoor
end
section
/- Plain functions: the reference's parser, step by step, junk trees behind an error included; no program in sight. -/
namespace Go.Proofs.YtekccolabhfopaaGreatDoor
/-- The state: the next token's index, the level, the first error's number (0: none) and offset. -/
structure St where
  i : Nat
  lv : Nat
  er : Int
  ps : Int
section
variable (res : List UInt8 → Bool) (T : List Tok)
def mTake (s : St) : St := if s.er = 0 ∧ (tk T s.i).kind ≠ 3 then ⟨s.i + 1, s.lv, s.er, s.ps⟩ else s
def mFail (e : Int) (s : St) : St := if s.er = 0 then ⟨s.i, s.lv, e, (tk T s.i).pos⟩ else s
def mNeed (w : List UInt8) (s : St) : St := mTake T (if isW T [w] s.i then s else mFail T 4 s)
def mNamed (i : Nat) : Bool := decide ((tk T i).kind = 0) && !res (tk T i).text
def mName (s : St) : Syn × St := (.mk 8 (tk T s.i).text 0 (tk T s.i).pos [], mTake T (if mNamed res T s.i then s else mFail T 4 s))
/-- The value of digits; 0 for other texts. -/
def mValGo : Int → List UInt8 → Int
  | n, [] => n
  | n, c :: r => if c.toNat < 48 ∨ 57 < c.toNat ∨ 1048576 < n then 0 else mValGo (10 * n + ((c.toNat : Int) - 48)) r
def mVal (l : List UInt8) : Int := mValGo 0 l
def mNumber (s : St) : Syn × St := (.mk 9 [] (mVal (tk T s.i).text) (tk T s.i).pos [], mTake T (if (tk T s.i).kind = 1 then s else mFail T 4 s))
def mUp (s : St) : St := ⟨s.i, s.lv + 1, s.er, s.ps⟩
def mPush (s : St) : St := if 128 < s.lv + 1 then mFail T 12 (mUp s) else mUp s
def mPop (s : St) : St := ⟨s.i, s.lv - 1, s.er, s.ps⟩
/-- A reader. -/
abbrev MRd := St → Option (Syn × St)
def mLeftLoop (r : MRd) (ops : List (List UInt8)) : Nat → Syn → St → Option (Syn × St)
  | 0, _, _ => none
  | g + 1, x, s => if s.er = 0 ∧ isW T ops s.i = true then (r (mTake T s)).bind fun p => mLeftLoop r ops g (binary (tk T s.i).text 0 x p.1) p.2 else some (x, s)
def mLeft (r : MRd) (ops : List (List UInt8)) : MRd := fun s => if s.er ≠ 0 then some (synNil, s) else (r s).bind fun p => mLeftLoop T r ops (T.length + 2) p.1 p.2
def mSetLoop : Nat → List Syn → St → Option (List Syn × St)
  | 0, _, _ => none
  | g + 1, xs, s => if s.er = 0 ∧ isW T [[44]] s.i = true then mSetLoop g (xs ++ [(mNumber T (mTake T s)).1]) (mNumber T (mTake T s)).2 else some (xs, s)
def mSet : MRd := fun s =>
  if isW T [[101, 118, 101, 114, 121, 111, 110, 101]] s.i then some (.mk 14 [101, 118, 101, 114, 121, 111, 110, 101] 0 (tk T s.i).pos [], mTake T s)
  else if (mNeed T [123] s).er = 0 ∧ isW T [[125]] (mNeed T [123] s).i = false then
    (mSetLoop T (T.length + 2) [(mNumber T (mNeed T [123] s)).1] (mNumber T (mNeed T [123] s)).2).bind fun p => some (.mk 14 [] 0 (tk T s.i).pos p.1, mNeed T [125] p.2)
  else some (.mk 14 [] 0 (tk T s.i).pos [], mNeed T [125] (mNeed T [123] s))
/-- The arguments of a predicate, by its word. -/
def mArgs (fo : MRd) (w : List UInt8) : St → Option (List Syn × St) := fun s =>
  if w = [105, 110, 112, 117, 116] ∨ w = [104, 101, 97, 114, 100] ∨ w = [100, 101, 99, 105, 100, 101, 100] then
    some ([(mNumber T s).1, (mNumber T (mNeed T [44] (mNumber T s).2)).1], (mNumber T (mNeed T [44] (mNumber T s).2)).2)
  else if w = [103, 105, 118, 101, 110] ∨ w = [102, 97, 117, 108, 116, 121] ∨ w = [97, 116] then some ([(mNumber T s).1], (mNumber T s).2)
  else if w = [75] then (fo (mNeed T [44] (mNumber T s).2)).bind fun p => some ([(mNumber T s).1, p.1], p.2)
  else if w = [69] ∨ w = [68] ∨ w = [67] then (mSet T s).bind fun q => (fo (mNeed T [44] q.2)).bind fun p => some ([q.1, p.1], p.2)
  else (fo s).bind fun p => some ([p.1], p.2)
def mrd : Nat → NT → MRd
  | 0, _ => fun _ => none
  | f + 1, .cond => mLeft T (mrd f .conj) [kOr]
  | f + 1, .conj => mLeft T (mrd f .neg) [kAnd]
  | f + 1, .neg => fun s =>
    if s.er ≠ 0 then some (synNil, s)
    else if isW T [kNot] s.i then (mrd f .neg (mPush T (mTake T s))).bind fun p => some (.mk 12 [] 0 (tk T s.i).pos [p.1], mPop p.2)
    else if isW T [[97, 108, 108]] s.i = true ∨ isW T [[115, 111, 109, 101]] s.i = true then
      (mrd f .cond (mPush T (mNeed T [58] (mName res T (mTake T s)).2))).bind fun p => some (.mk 13 (tk T s.i).text 0 (tk T s.i).pos [(mName res T (mTake T s)).1, p.1], mPop p.2)
    else (mrd f .sum s).bind fun p =>
      if p.2.er = 0 ∧ isW T [[61], [33, 61], [60], [60, 61]] p.2.i = true then (mrd f .sum (mTake T p.2)).bind fun q => some (binary (tk T p.2.i).text 0 p.1 q.1, q.2)
      else some p
  | f + 1, .sum => mLeft T (mrd f .unit) [[43], [45]]
  | f + 1, .unit => fun s =>
    if s.er ≠ 0 then some (synNil, s)
    else if (tk T s.i).kind = 1 then some (mNumber T s)
    else if mNamed res T s.i then some (mName res T s)
    else if isW T [[40]] s.i then (mrd f .cond (mPush T (mTake T s))).bind fun p => some (p.1, mNeed T [41] (mPop p.2))
    else if isW T [[105, 110]] s.i = true ∨ isW T [[111, 117, 116]] s.i = true then
      (mrd f .sum (mPush T (mNeed T [40] (mTake T s)))).bind fun p => some (.mk 10 (tk T s.i).text 0 (tk T s.i).pos [p.1], mNeed T [41] (mPop p.2))
    else if isW T [[104, 101, 97, 114, 115]] s.i then
      (mrd f .sum (mPush T (mNeed T [40] (mTake T s)))).bind fun p => (mrd f .sum (mNeed T [44] p.2)).bind fun q => some (.mk 10 (tk T s.i).text 0 (tk T s.i).pos [p.1, q.1], mNeed T [41] (mPop q.2))
    else if isW T [[99, 111, 117, 110, 116]] s.i then
      (mrd f .cond (mPush T (mNeed T [40] (mName res T (mTake T s)).2))).bind fun p => some (.mk 13 (tk T s.i).text 0 (tk T s.i).pos [(mName res T (mTake T s)).1, p.1], mNeed T [41] (mPop p.2))
    else some (.mk 10 (tk T s.i).text 0 (tk T s.i).pos [], mFail T 4 s)
  | f + 1, .scheme => mLeft T (mrd f .term) [kOr]
  | f + 1, .term => mLeft T (mrd f .factor) [kAnd]
  | f + 1, .factor => fun s =>
    if s.er ≠ 0 then some (synNil, s)
    else (mrd f .atom s).bind fun p =>
      if p.2.er = 0 ∧ isW T [[116, 104, 101, 110]] p.2.i = true then
        (mrd f .factor (mPush T (mNumber T (mTake T p.2)).2)).bind fun q => some (binary [116, 104, 101, 110] (mNumber T (mTake T p.2)).1.num p.1 q.1, mPop q.2)
      else some p
  | f + 1, .atom => fun s =>
    if mNamed res T s.i then some (mName res T s)
    else if isW T [[99, 114, 97, 115, 104], [115, 101, 110, 100], [114, 101, 99, 101, 105, 118, 101], [111, 109, 105, 116], [112, 97, 114, 116, 105, 116, 105, 111, 110]] s.i then
      some (.mk 10 (tk T s.i).text 0 (tk T s.i).pos [(mNumber T (mPush T (mNeed T [40] (mTake T s)))).1], mNeed T [41] (mPop (mNumber T (mPush T (mNeed T [40] (mTake T s)))).2))
    else if isW T [[115, 110, 97, 112, 115, 104, 111, 116]] s.i then some (.mk 10 (tk T s.i).text 0 (tk T s.i).pos [], mTake T s)
    else if isW T [[103, 114, 97, 112, 104, 115]] s.i then
      (mrd f .cond (mPush T (mNeed T [40] (mTake T s)))).bind fun p => some (.mk 10 (tk T s.i).text 0 (tk T s.i).pos [p.1], mNeed T [41] (mPop p.2))
    else if isW T [[40]] s.i then (mrd f .scheme (mPush T (mTake T s))).bind fun p => some (p.1, mNeed T [41] (mPop p.2))
    else some (.mk 10 (tk T s.i).text 0 (tk T s.i).pos [], mFail T 4 s)
  | f + 1, .formula => fun s => (mrd f .disj s).bind fun p =>
    if p.2.er = 0 ∧ isW T [[117, 110, 116, 105, 108]] p.2.i = true then
      (mrd f .formula (mPush T (mTake T p.2))).bind fun q => some (binary [117, 110, 116, 105, 108] 0 p.1 q.1, mPop q.2)
    else some p
  | f + 1, .disj => mLeft T (mrd f .meet) [kOr]
  | f + 1, .meet => mLeft T (mrd f .lit) [kAnd]
  | f + 1, .lit => fun s =>
    if s.er ≠ 0 then some (synNil, s)
    else if isW T [kNot] s.i then (mrd f .lit (mPush T (mTake T s))).bind fun p => some (.mk 12 [] 0 (tk T s.i).pos [p.1], mPop p.2)
    else if isW T [[116, 114, 117, 101]] s.i then some (.mk 10 (tk T s.i).text 0 (tk T s.i).pos [], mTake T s)
    else if isW T [[40]] s.i then (mrd f .formula (mPush T (mTake T s))).bind fun p => some (p.1, mNeed T [41] (mPop p.2))
    else if isW T [[105, 110, 112, 117, 116], [104, 101, 97, 114, 100], [100, 101, 99, 105, 100, 101, 100], [103, 105, 118, 101, 110], [102, 97, 117, 108, 116, 121], [97, 116], [75], [69], [68], [67], [110, 101, 120, 116], [97, 108, 119, 97, 121, 115], [101, 118, 101, 110, 116, 117, 97, 108, 108, 121]] s.i then
      (mArgs T (mrd f .formula) (tk T s.i).text (mPush T (mNeed T [40] (mTake T s)))).bind fun p => some (.mk 10 (tk T s.i).text 0 (tk T s.i).pos p.1, mNeed T [41] (mPop p.2))
    else some (.mk 10 (tk T s.i).text 0 (tk T s.i).pos [], mFail T 4 s)
def mPart (f : Nat) (kind : Int) (w : List UInt8) : MRd := fun s => (mrd res T f .cond (mNeed T w s)).bind fun p => some (.mk kind [] 0 (tk T s.i).pos [p.1], p.2)
def mOpt (f : Nat) (kind : Int) (w : List UInt8) (xs : List Syn) : St → Option (List Syn × St) := fun s =>
  if isW T [w] s.i then (mPart res T f kind w s).bind fun p => some (xs ++ [p.1], p.2) else some (xs, s)
def mDecl (f : Nat) : MRd := fun s =>
  (if isW T [[116, 97, 115, 107]] s.i then
    let n := mName res T (mTake T s)
    let a := mNumber T (mNeed T [105, 110, 112, 117, 116, 115] n.2)
    let b := mNumber T (mNeed T [111, 117, 116, 112, 117, 116, 115] a.2)
    (mOpt res T f 2 [119, 104, 101, 114, 101] [b.1] b.2).bind fun p => (mPart res T f 3 [97, 108, 108, 111, 119] p.2).bind fun q =>
    (mOpt res T f 4 [99, 97, 108, 109] (p.1 ++ [q.1]) q.2).bind fun r => some (Syn.mk 1 n.1.text a.1.num (tk T s.i).pos r.1, r.2)
  else if isW T [[97, 100, 118, 101, 114, 115, 97, 114, 121]] s.i then
    let n := mName res T (mTake T s)
    (mrd res T f .scheme (mNeed T [61] n.2)).bind fun p => some (Syn.mk 5 n.1.text 0 (tk T s.i).pos [p.1], p.2)
  else if isW T [[102, 111, 114, 109, 117, 108, 97]] s.i then
    let n := mName res T (mTake T s)
    (mrd res T f .formula (mNeed T [61] n.2)).bind fun p => some (Syn.mk 6 n.1.text 0 (tk T s.i).pos [p.1], p.2)
  else if isW T [[112, 114, 111, 98, 108, 101, 109]] s.i then
    let n := mName res T (mTake T s)
    let a := mName res T (mNeed T [61] n.2)
    let b := mName res T (mNeed T [117, 110, 100, 101, 114] a.2)
    let m := mNumber T (mNeed T [114, 111, 117, 110, 100, 115] b.2)
    some (Syn.mk 7 n.1.text m.1.num (tk T s.i).pos [a.1, b.1], m.2)
  else some (Syn.mk 0 [] 0 (tk T s.i).pos [], mFail T 4 s)).bind fun p => some (p.1, mNeed T [59] p.2)
def mDeclLoop (f : Nat) : Nat → List Syn → St → Option (List Syn × St)
  | 0, _, _ => none
  | g + 1, xs, s => if s.er = 0 ∧ (tk T s.i).kind ≠ 3 then (mDecl res T f s).bind fun p => mDeclLoop f g (xs ++ [p.1]) p.2 else some (xs, s)
def mProgram (f : Nat) : MRd := fun s =>
  let n := mNumber T (mNeed T [112, 114, 111, 99, 101, 115, 115, 101, 115] s)
  (mDeclLoop res T f (T.length + 2) [] (mNeed T [59] n.2)).bind fun p => some (.mk 0 [] n.1.num (tk T s.i).pos p.1, p.2)
def mStart : St := ⟨0, 0, 0, 0⟩
def mEnd (s : St) : St := if (tk T s.i).kind = 3 then s else mFail T 4 s
/-- A whole text's tokens. -/
def mWhole (r : MRd) : Option (Syn × St) := (r mStart).bind fun p => some (p.1, mEnd T p.2)
end
end Go.Proofs.YtekccolabhfopaaGreatDoor
end
section
/- Walks: Keywords, Reserved of the reference. -/
set_option maxHeartbeats 2000000
set_option maxRecDepth 100000
namespace Go.Proofs.YtekccolabhfopaaGreatDoor
open Go.RowKit
theorem str_info : (Tryz.prog.info? 9).map (fun i => (i.zero, i.size, i.bytes)) = some (some (.string ByteArray.empty), 1, 16) := by kernel_rfl
/-- The cells of strings. -/
def strVals (l : List (List UInt8)) : List Value := l.map fun x => .string ⟨x.toArray⟩
/-- A slice value that reads as strings. -/
def StrSl (w : World) (v : Value) (l : List (List UInt8)) : Prop :=
  ∃ b o c, v = .slice (some ⟨b, o, none⟩) l.length c ∧ b < w.heap.size ∧ ∀ k (h : k < l.length), w.cell? ⟨b, o + k, none⟩ = some (.string ⟨l[k].toArray⟩)
theorem StrSl.below {w w' : World} {v : Value} {l : List (List UInt8)} (h : StrSl w v l) (hb : Below w.heap.size w w') : StrSl w' v l := by
  obtain ⟨b, o, c, rfl, hlt, hc⟩ := h
  exact ⟨b, o, c, rfl, by have := hb.size; omega, fun k hk => by rw [hb.cell hlt]; exact hc k hk⟩
theorem StrSl.of_owns {w : World} {B : Nat} {v : Value} {l : List (List UInt8)} (h : w.ownsRow B 9 1 v l.length (strVals l)) (hl : 0 < l.length) : StrSl w v l := by
  rcases h.2 with ⟨rfl, h0⟩ | ⟨g, cap, cur, rfl, hB, hg, r⟩
  · omega
  · refine ⟨g, 0, cap, rfl, (Array.getElem?_eq_some_iff.1 hg).1, fun k hk => ?_⟩
    have hc := fun j u => h.cells (g := g) (by simp [Value.ownBlock]) j u
    have ha : ∀ j, (⟨g, 0, none⟩ : Addr).add j = ⟨g, j, none⟩ := fun j => by unfold Addr.add; split <;> simp_all
    simp only [ha] at hc
    rw [Nat.zero_add]
    exact hc _ _ (by simp [strVals, hk])
def kwStep (st : List (List UInt8) × List UInt8) (b : UInt8) : List (List UInt8) × List UInt8 := if b.toNat = 32 then (st.1 ++ [st.2], []) else (st.1, st.2 ++ [b])
def kwAll : List UInt8 := ((([67, 32, 68, 32, 69, 32, 75, 32, 97, 100, 118, 101, 114, 115, 97, 114, 121, 32, 97, 108, 108, 32, 97, 108, 108, 111, 119, 32, 97, 108, 119, 97, 121].append [115, 32, 97, 110, 100, 32, 97, 116, 32, 99, 97, 108, 109, 32, 99, 111, 117, 110, 116, 32, 99, 114, 97, 115, 104, 32, 100, 101, 99, 105, 100, 101, 100, 32]).append ([101, 118, 101, 110, 116, 117, 97, 108, 108, 121, 32, 101, 118, 101, 114, 121, 111, 110, 101, 32, 102, 97, 117, 108, 116, 121, 32, 102, 111, 114, 32, 102, 111, 114].append [109, 117, 108, 97, 32, 103, 105, 118, 101, 110, 32, 103, 114, 97, 112, 104, 115, 32, 104, 101, 97, 114, 100, 32, 104, 101, 97, 114, 115, 32, 105, 110, 32, 105])).append (([110, 112, 117, 116, 32, 105, 110, 112, 117, 116, 115, 32, 110, 101, 120, 116, 32, 110, 111, 116, 32, 111, 109, 105, 116, 32, 111, 114, 32, 111, 117, 116, 32, 111].append [117, 116, 112, 117, 116, 115, 32, 112, 97, 114, 116, 105, 116, 105, 111, 110, 32, 112, 114, 111, 98, 108, 101, 109, 32, 112, 114, 111, 99, 101, 115, 115, 101, 115]).append ([32, 114, 101, 99, 101, 105, 118, 101, 32, 114, 111, 117, 110, 100, 115, 32, 115, 101, 110, 100, 32, 115, 110, 97, 112, 115, 104, 111, 116, 32, 115, 111, 109, 101].append [32, 116, 97, 115, 107, 32, 116, 104, 101, 110, 32, 116, 114, 117, 101, 32, 117, 110, 100, 101, 114, 32, 117, 110, 116, 105, 108, 32, 119, 104, 101, 114, 101, 32])))
theorem kw_all : kwAll.foldl kwStep ([], []) = (kwTexts, []) := by kernel_rfl
theorem kw_len : kwAll.length ≤ 1000 := by decide +kernel
theorem kwStep_len (l : List UInt8) : ∀ st : List (List UInt8) × List UInt8, (l.foldl kwStep st).1.length ≤ st.1.length + l.length ∧ (l.foldl kwStep st).2.length ≤ st.2.length + l.length := by
  induction l with
  | nil => intro st; simp
  | cons b r ih =>
    intro st
    have := ih (kwStep st b)
    rw [List.foldl_cons]
    unfold kwStep at *
    split at this <;> rename_i h <;> simp [h] at this ⊢ <;> omega
def KwOut (w : World) (e : Ending) (w' : World) : Prop := Below w.heap.size w w' ∧ ∃ v, e = .returned v ∧ StrSl w' v kwTexts
theorem refKeywords_any (w : World) : Calls Tryz.prog 148 #[] w (KwOut w) := by
  obtain ⟨i0, hi, hz0, hz1, hz2⟩ := info_parts str_info
  have HI := Lib.hid hi
  have HZ := Lib.hid (And.intro hz0 (And.intro hz1 hz2))
  clear hi hz0 hz1 hz2
  have hall := Lib.hid kw_all
  have hlen := kw_len
  have hstl := Lib.hid (fun k => kwStep_len (kwAll.take k) ([], []))
  go_enter Tryz.func148, Tryz.ntmps148
  go_wp2_with fail
  change Code.wp Tryz.prog _ _ ⟨#[.slice none 0 0, .slice none 0 0, .string ⟨kwAll.toArray⟩, .string ⟨#[]⟩, .int .i64 0, undef, undef, undef, undef, undef, undef, undef, undef, undef, undef, undef, undef, undef, undef, undef, undef, undef, undef, undef, undef, undef, undef], []⟩ _
  generalize kwAll = L at *
  go_loopw [1, 3, 4] (fun v s i wr => ∃ k : Nat, ∃ out : List (List UInt8), ∃ cur : List UInt8, k ≤ L.length ∧ i = .int .i64 k ∧ s = .string ⟨cur.toArray⟩ ∧ wr.ownsRow w.heap.size 9 1 v out.length (strVals out) ∧ Below w.heap.size w wr ∧ out.length ≤ k ∧ cur.length ≤ k ∧ Hid ((L.take k).foldl kwStep ([], []) = (out, cur))) (fun _ _ i _ => L.length - (intOf i).toNat)
  case atStart => exact ⟨0, [], [], by omega, rfl, rfl, World.ownsRow_nil _ _ _ _, Below.refl _ _, by simp, by simp, show _ = _ from rfl⟩
  case round =>
    obtain ⟨k, out, cur, hk, rfl, rfl, hown, hb, ho, hcu, hst⟩ := hrel
    by_cases hlt : k < L.length
    · have hnx : (L.take (k + 1)).foldl kwStep ([], []) = if (L[k]).toNat = 32 then (out ++ [cur], []) else (out, cur ++ [L[k]]) := by
        rw [List.take_succ_eq_append_getElem hlt, List.foldl_append, hst.out]; rfl
      by_cases h32 : (L[k]).toNat = 32
      · rw [if_pos h32] at hnx
        replace hnx := Lib.hid hnx
        have h32b : ((L[k].toNat : Int) == 32) = true := by rw [beq_iff_eq]; omega
        replace h32 := Lib.hid h32
        obtain ⟨hz0, hz1, hz2⟩ := HZ.out
        have hi := HI.out
        go_wp2_with (at_builtin; refine wpList_append_own _ rfl _ _ 36 rfl w.heap.size 9 i0 _ 1 16 Tryz.underlying36 hi hz0 hz1 hz2 rfl (by decide) _ _ _ rfl (hown.alloc _) ⟨wr.heap.size, 0, none⟩ 1 1 [.string ⟨cur.toArray⟩] rfl rfl ?c1 ?c2 ?c3 ?c4 ?c5 ?_)
        case c1 =>
          intro j u hj
          match j, hj with
          | 0, hj => simp at hj; subst hj; simp [Addr.add]
        case c2 => intro u hu; simp at hu; subst hu; rfl
        case c3 => unfold maxLen; omega
        case c4 => omega
        case c5 => have := hb.size; simp; omega
        intro v' w3 hown' hgrow _
        replace hown' := Lib.hid hown'
        have hB3 := Lib.hid ((hb.alloc hb.size (Obj.cells #[.string ⟨cur.toArray⟩] 9)).grown hgrow (by have := hb.size; simp; omega) (fun g hg => (hown.lt g hg).1))
        clear hgrow
        go_wp2_with fail
        go_roundw
        case rel => exact ⟨k + 1, out ++ [cur], [], by omega, by go_num, rfl, by have h := hown'.out; simpa [strVals] using h, hB3.out, by simp; omega, by simp, hnx.out⟩
        case measure => simp [intOf]; omega
      · rw [if_neg h32] at hnx
        replace hnx := Lib.hid hnx
        have h32b : ((L[k].toNat : Int) == 32) = false := by rw [beq_eq_false_iff_ne]; omega
        replace h32 := Lib.hid h32
        have hbs := hb.size
        go_wp2_with fail
        go_roundw
        case rel => exact ⟨k + 1, out, cur ++ [L[k]], by omega, by go_num, by show Value.string ⟨(cur ++ List.take 1 (List.drop k L)).toArray⟩ = _; rw [List.drop_eq_getElem_cons hlt]; rfl, hown, hb, by omega, by simp; omega, hnx.out⟩
        case measure => simp [intOf]; omega
    · have hend := hst.out
      rw [List.take_of_length_le (by omega), hall.out] at hend
      simp only [Prod.mk.injEq] at hend
      have hk1 := Lib.hid hend.1
      clear hend
      go_wp2_with fail
      go_ret
      refine ⟨hb, _, rfl, ?_⟩
      rw [hk1.out]
      exact StrSl.of_owns hown (by rw [← hk1.out]; decide)
theorem mem_drop_step (L : List (List UInt8)) (k : Nat) (h : k < L.length) (s : List UInt8) : decide (s ∈ L.drop k) = (decide (L[k] = s) || decide (s ∈ L.drop (k + 1))) := by
  rw [List.drop_eq_getElem_cons h, Bool.eq_iff_iff]
  simp only [List.mem_cons, decide_eq_true_eq, Bool.or_eq_true]
  constructor
  · rintro (h | h)
    · exact .inl h.symm
    · exact .inr h
  · rintro (h | h)
    · exact .inl h.symm
    · exact .inr h
theorem refReserved_any (s : List UInt8) (w : World) :
    Calls Tryz.prog 137 #[.string ⟨s.toArray⟩] w fun e w' => e = .returned (.bool (reservedB s)) ∧ Below w.heap.size w w' := by
  have hK := Lib.hid (refKeywords_any w)
  have hr : reservedB s = decide (s ∈ kwTexts.drop 0) := rfl
  have h46 : kwTexts.length = 46 := rfl
  replace hr := Lib.hid hr
  replace h46 := Lib.hid h46
  go_enter Tryz.func137, Tryz.ntmps137
  go_wp2_with fail
  (with_reducible refine (hK.out).mono ?_)
  rintro e w1 ⟨hb, v, rfl, b, o, c, rfl, hlt, hc⟩
  have HC := Lib.hid hc
  rw [h46.out]
  clear hc hK
  go_wp2_with fail
  go_loop [4] (fun i => ∃ k : Nat, k ≤ 46 ∧ i = .int .i64 k ∧ Hid (reservedB s = decide (s ∈ kwTexts.drop k))) (fun i => 46 - (intOf i).toNat)
  case atStart => exact ⟨0, by omega, rfl, hr.out⟩
  case round =>
    obtain ⟨k, hk, rfl, hall⟩ := hrel
    by_cases hk1 : k < 46
    · have hk2 : k < kwTexts.length := hk1
      have c0 := HC.out k hk2
      have hstep : decide (s ∈ kwTexts.drop k) = (decide (kwTexts[k] = s) || decide (s ∈ kwTexts.drop (k + 1))) := by
        exact mem_drop_step kwTexts k hk2 s
      replace hk2 := Lib.hid hk2
      generalize kwTexts[k] = x at *
      by_cases hx : x = s
      · have hxb : (x == s) = true := by simp [hx]
        have hres : Hid (reservedB s = true) := show _ = _ by rw [hall.out, hstep, decide_eq_true hx]; rfl
        replace hx := Lib.hid hx
        clear hstep
        go_wp2_with fail
        go_ret
        exact ⟨ret_b hres.out.symm, hb⟩
      · have hxb : (x == s) = false := by simp [hx]
        have hres : Hid (reservedB s = decide (s ∈ kwTexts.drop (k + 1))) := show _ = _ by rw [hall.out, hstep, decide_eq_false hx]; rfl
        replace hx := Lib.hid hx
        clear hstep
        go_wp2_with fail
        go_round
        case rel => exact ⟨k + 1, by omega, by go_num, hres.out⟩
        case measure => simp [intOf]; omega
    · have hres : Hid (reservedB s = false) := show _ = _ by
        rw [hall.out, List.drop_of_length_le (by rw [h46.out]; omega)]; rfl
      go_wp2_with fail
      go_ret
      exact ⟨ret_b hres.out.symm, hb⟩
end Go.Proofs.YtekccolabhfopaaGreatDoor
end
section
/- Walk: binary of the reference's parser. -/
set_option maxHeartbeats 1000000
set_option maxRecDepth 100000
namespace Go.Proofs.YtekccolabhfopaaGreatDoor
open Go.RowKit
theorem rbinary_lit (S : Nat → Prop) (op : List UInt8) (num k1 n1 a1 k2 n2 a2 : Int) (t1 t2 : List UInt8) (l1 l2 : List Syn) (v1 v2 : Value) (w : World) (h1 : KidsAt S w l1 v1) (h2 : KidsAt S w l2 v2) (hp : ∀ k, w.heap.size ≤ k → S k) :
    Calls Tryz.prog 83 #[.string ⟨op.toArray⟩, .int .i64 num, .agg #[.int .i64 k1, .string ⟨t1.toArray⟩, .int .i64 n1, .int .i64 a1, v1], .agg #[.int .i64 k2, .string ⟨t2.toArray⟩, .int .i64 n2, .int .i64 a2, v2]] w
      fun r w' => ∃ ka kn kc, r = .returned (.agg #[.int .i64 11, .string ⟨op.toArray⟩, .int .i64 num, .int .i64 a1, .slice ka kn kc]) ∧ (KidsAt S w' [.mk k1 t1 n1 a1 l1, .mk k2 t2 n2 a2 l2] (.slice ka kn kc) ∧ Below w.heap.size w w') := by
  replace h1 := Lib.hid h1
  replace h2 := Lib.hid h2
  go_enter Tryz.func83, Tryz.ntmps83
  go_wp2_with fail
  refine bodyPost_ret (v := .agg #[.int .i64 11, .string ⟨op.toArray⟩, .int .i64 num, .int .i64 a1, .slice (some ⟨w.heap.size + 1 + 1 + 1, 0, none⟩) 2 2]) (by simp [results, Tryz.results83, go_sem]) rfl ⟨_, _, _, rfl, ?_, (((((Below.refl _ _).alloc (Nat.le_refl _) _).alloc (by simp) _).alloc (by simp; omega) _).alloc (by simp; omega) _)⟩
  have hO : ∀ A B C D : Obj, Keep S w ((((w.alloc A).alloc B).alloc C).alloc D) := fun A B C D => Keep.of_below (((((Below.refl _ _).alloc (Nat.le_refl _) _).alloc (by simp) _).alloc (by simp; omega) _).alloc (by simp; omega) _)
  have hblk := heap_alloc_new (((w.alloc (.cells #[.int .i64 k1, .string ⟨t1.toArray⟩, .int .i64 n1, .int .i64 a1, v1] 26)).alloc (.cells #[.int .i64 k2, .string ⟨t2.toArray⟩, .int .i64 n2, .int .i64 a2, v2] 26)).alloc
    (.cells #[.int .i64 11, .string ⟨op.toArray⟩, .int .i64 num, .int .i64 a1, .slice (some ⟨w.heap.size + 1 + 1 + 1, 0, none⟩) 2 2] 26)) (.cells #[.int .i64 k1, .string ⟨t1.toArray⟩, .int .i64 n1, .int .i64 a1, v1, .int .i64 k2, .string ⟨t2.toArray⟩, .int .i64 n2, .int .i64 a2, v2] 26)
  rw [World.size_alloc, World.size_alloc, World.size_alloc] at hblk
  exact KidsAt.some hblk (hp _ (by omega)) (RowAt.cons (cs := [.int .i64 k1, .string ⟨t1.toArray⟩, .int .i64 n1, .int .i64 a1, v1]) (.mk (h1.out.keep (hO _ _ _ _) fun _ h => h)) (RowAt.cons (cs := [.int .i64 k2, .string ⟨t2.toArray⟩, .int .i64 n2, .int .i64 a2, v2]) (.mk (h2.out.keep (hO _ _ _ _) fun _ h => h)) .nil))
end Go.Proofs.YtekccolabhfopaaGreatDoor
end
