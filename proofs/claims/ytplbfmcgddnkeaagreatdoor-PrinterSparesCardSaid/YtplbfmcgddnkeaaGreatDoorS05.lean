/- Joined: RefC, RefK, PlainA, Nam, PnA, PnB. -/
import Derived.Handy
import Derived.Deep.Cut
import Derived.Test.YtplbfmcgddnkeaaGreatDoorS04
import Derived.Test.YtplbfmcgddnkeaaGreatDoorS03
import Derived.Test.YtplbfmcgddnkeaaGreatDoorS02
set_option linter.unusedVariables false
set_option linter.unusedSimpArgs false
section
set_option maxHeartbeats 1000000
set_option maxRecDepth 100000
namespace Go.Proofs.YtplbfmcgddnkeaaGreatDoor
open Go.RowKit
theorem refScan_any (s : List UInt8) (w : World) (hs : s.length ≤ 1000000) :
    Calls Tryz.prog 43 #[.string ⟨s.toArray⟩] w (ScanOut w (scan s)) := by
  by_cases hlong : 65536 < s.length
  · have hr : Hid (scan s = .error (0, 13)) := show _ = _ by rw [scan, if_pos hlong]
    go_enter Tryz.func43, Tryz.ntmps43
    go_wp2_with fail
    go_ret3
    rw [hr.out]
    exact ⟨Below.refl _ _, rfl⟩
  · have hle : s.length ≤ 65536 := by omega
    have hr := Lib.hid (scan_eq hle)
    obtain ⟨i0, hi, hz0, hz1, hz2⟩ := info_parts tok_info
    have HI := Lib.hid hi
    have HZ := Lib.hid (And.intro hz0 (And.intro hz1 hz2))
    clear hi hz0 hz1 hz2 hlong
    have hsk := skip_le false s
    have hB0 := Lib.hid (show ∀ W, Calls Tryz.prog 83 #[.string ⟨s.toArray⟩, .int .i64 0] W fun e w' => e = .returned (.int .i64 (skip false s)) ∧ w' = W from fun W => (refBlank_any s 0 W (by omega) (by omega)).mono (fun e w' h => by simpa using h))
    go_enter Tryz.func43, Tryz.ntmps43
    go_wp2_with fail
    (with_reducible refine (hB0.out _).mono ?_); rintro e w' ⟨rfl, rfl⟩
    clear hB0
    go_wp2_with fail
    go_loopw [5, 6] (fun v i wr => ∃ k : Nat, ∃ ts : List Tok, k ≤ s.length ∧ i = .int .i64 k ∧ wr.ownsRow w'.heap.size 45 3 v ts.length (tokCells ts) ∧ ts.length ≤ k ∧ Below w'.heap.size w' wr ∧ Hid (skip false (s.drop k) = 0 ∧ scanL 0 s = app ts (scanL k (s.drop k)))) (fun _ i _ => s.length - (intOf i).toNat)
    case atStart => exact ⟨skip false s, [], hsk, rfl, World.ownsRow_nil _ _ _ _, by simp, Below.refl _ _, skip_idem s false, by rw [app_nil, scanL_skip]; simp⟩
    case round =>
      obtain ⟨k, ts, hk, rfl, hown, hts, hb, hall⟩ := hrel
      by_cases hlt : k < s.length
      · have hN := Lib.hid (fun W => refNext_any s k W hs hlt)
        have hne' : Hid (s.drop k ≠ []) := by intro e; have := congrArg List.length e; simp at this; omega
        cases ht : tok (s.drop k) with
        | error x =>
          obtain ⟨d, er⟩ := x
          rw [ht] at hN
          have her : 0 < er := by
            unfold tok at ht; (repeat' split at ht) <;> simp at ht <;> omega
          have hb0 : ((er : Int) != 0) = true := by rw [bne_iff_ne]; omega
          have hto : Hid (scan s = .error (k + d, er)) := show _ = _ by
            rw [hr.out, hall.out.2, scanL_error hall.out.1 hne'.out ht]; rfl
          clear ht her
          go_wp2_with fail
          (with_reducible refine (hN.out _).mono ?_); rintro e w1 ⟨rfl, nd, rfl⟩
          simp only [nextVal]
          go_wp2_with fail
          go_ret3
          rw [hto.out]
          exact ⟨below_drawn hb nd, rfl⟩
        | ok x =>
          obtain ⟨kd, n⟩ := x
          rw [ht] at hN
          have hp := tok_pos ht
          have hto : Hid (scan s = app (ts ++ [⟨kd, (s.drop k).take n, k⟩]) (scanL (k + n) (s.drop (k + n)))) := show _ = _ by
            rw [hr.out, hall.out.2, scanL_ok hall.out.1 hne'.out ht, app_app, List.drop_drop]
          simp only [List.length_drop] at hp
          obtain ⟨hnpos, hnle⟩ := hp
          have hkn : k + n ≤ s.length := by omega
          have hBl := fun W => refBlank_any s (k + n) W (by omega) hkn
          simp only [Int.natCast_add] at hBl
          replace hBl := Lib.hid hBl
          have hsm := skip_le false (s.drop (k + n))
          simp only [List.length_drop] at hsm
          obtain ⟨hz0, hz1, hz2⟩ := HZ.out
          have hi := HI.out
          clear ht
          generalize htx : (s.drop k).take n = txt at *
          go_wp2_with fail
          (with_reducible refine (hN.out _).mono ?_); rintro e w1 ⟨rfl, nd, rfl⟩
          simp only [nextVal]
          go_wp2_with (at_builtin; refine wpList_append_own _ rfl _ _ 39 rfl w'.heap.size 45 i0 _ 3 32 Tryz.underlying39 hi hz0 hz1 hz2 rfl (by decide) _ _ _ rfl (show World.ownsRow ((wr.alloc _).drewN nd) _ _ _ _ _ _ from (hown.alloc _)) ⟨wr.heap.size, 0, none⟩ 1 1 [.int .i64 kd, .string ⟨txt.toArray⟩, .int .i64 k] rfl rfl ?c1 ?c2 ?c3 ?c4 ?c5 ?_)
          case c1 => exact fun j u h => news3 wr _ _ _ _ j u h
          case c2 => exact one3 _ _ _
          case c3 => unfold maxLen; omega
          case c4 => omega
          case c5 => have := hb.size; simp; omega
          intro v' w3 hown' hgrow _
          replace hown' := Lib.hid hown'
          have hB3 := Lib.hid ((below_drawn (hb.alloc hb.size (Obj.cells #[.int .i64 kd, .string ⟨txt.toArray⟩, .int .i64 k] 45)) nd).grown hgrow (by have := hb.size; simp; omega) (fun g hg => (hown.lt g hg).1))
          clear hgrow
          go_wp2_with fail
          (with_reducible refine (hBl.out _).mono ?_); rintro e w1 ⟨rfl, rfl⟩
          go_wp2_with fail
          go_roundw
          case rel => exact ⟨k + n + skip false (s.drop (k + n)), ts ++ [⟨kd, txt, k⟩], by omega, by go_num, by rw [tokCells_append, List.length_append]; exact hown'.out, by simp; omega, hB3.out, by have h := skip_idem (s.drop (k + n)) false; rwa [List.drop_drop] at h, by rw [← hr.out, hto.out, scanL_skip, List.drop_drop]⟩
          case measure => simp [intOf]; omega
      · have hkl : k = s.length := by omega
        have hres : Hid (scan s = .ok (ts ++ [⟨3, [], s.length⟩])) := show _ = _ by
          rw [hr.out, hall.out.2, List.drop_of_length_le (by omega), scanL_nil, hkl]; rfl
        obtain ⟨hz0, hz1, hz2⟩ := HZ.out
        have hi := HI.out
        replace hkl := Lib.hid hkl
        go_wp2_with (at_builtin; refine wpList_append_own _ rfl _ _ 39 rfl w'.heap.size 45 i0 _ 3 32 Tryz.underlying39 hi hz0 hz1 hz2 rfl (by decide) _ _ _ rfl (hown.alloc _) ⟨wr.heap.size, 0, none⟩ 1 1 [.int .i64 3, .string ⟨#[]⟩, .int .i64 s.length] rfl rfl ?c1 ?c2 ?c3 ?c4 ?c5 ?_)
        case c1 => exact news3 _ _ _ _ _
        case c2 => exact one3 _ _ _
        case c3 => unfold maxLen; omega
        case c4 => omega
        case c5 => have := hb.size; simp; omega
        intro v' w1 hown' hgrow _
        go_wp2_with fail
        go_ret3
        rw [hres.out]
        refine ⟨(hb.alloc hb.size _).grown hgrow (by have := hb.size; simp; omega) (fun g hg => (hown.lt g hg).1), v', rfl, ?_⟩
        rw [tokCells_append]
        simpa [tokCells] using hown'
end Go.Proofs.YtplbfmcgddnkeaaGreatDoor
end
section
set_option maxHeartbeats 2000000
set_option maxRecDepth 100000
namespace Go.Proofs.YtplbfmcgddnkeaaGreatDoor
open Go.RowKit
theorem str_info : (Tryz.prog.info? 9).map (fun i => (i.zero, i.size, i.bytes)) = some (some (.string ByteArray.empty), 1, 16) := by kernel_rfl
def strVals (l : List (List UInt8)) : List Value := l.map fun x => .string ⟨x.toArray⟩
def StrSl (w : World) (v : Value) (l : List (List UInt8)) : Prop :=
  ∃ b o c, v = .slice (some ⟨b, o, none⟩) l.length c ∧ b < w.heap.size ∧ ∀ k (h : k < l.length), w.cell? ⟨b, o + k, none⟩ = some (.string ⟨l[k].toArray⟩)
theorem StrSl.below {w w' : World} {v : Value} {l : List (List UInt8)} (h : StrSl w v l) (hb : Below w.heap.size w w') : StrSl w' v l := by
  obtain ⟨b, o, c, rfl, hlt, hc⟩ := h
  exact ⟨b, o, c, rfl, by have := hb.size; omega, fun k hk => by rw [hb.cell hlt]; exact hc k hk⟩
theorem StrSl.of_owns {w : World} {B : Nat} {v : Value} {l : List (List UInt8)} (h : w.ownsRow B 9 1 v l.length (strVals l)) (hl : 0 < l.length) : StrSl w v l := by
  rcases h.2 with ⟨rfl, h0⟩ | ⟨g, cap, cur, rfl, hB, hg, r⟩
  · omega
  · refine ⟨g, 0, cap, rfl, (Array.getElem?_eq_some_iff.1 hg).1, fun k hk => ?_⟩
    have hc := fun j u => h.cells (g := g) (by simp [Value.ownBlock]) j u
    have ha : ∀ j, (⟨g, 0, none⟩ : Addr).add j = ⟨g, j, none⟩ := fun j => by unfold Addr.add; split <;> simp_all
    simp only [ha] at hc
    rw [Nat.zero_add]
    exact hc _ _ (by simp [strVals, hk])
def kwStep (st : List (List UInt8) × List UInt8) (b : UInt8) : List (List UInt8) × List UInt8 := if b.toNat = 32 then (st.1 ++ [st.2], []) else (st.1, st.2 ++ [b])
def kwAll : List UInt8 := ((([67, 32, 68, 32, 69, 32, 75, 32, 97, 100, 118, 101, 114, 115, 97, 114, 121, 32, 97, 108, 108, 32, 97, 108, 108, 111, 119, 32, 97, 108, 119, 97, 121].append [115, 32, 97, 110, 100, 32, 97, 116, 32, 99, 97, 108, 109, 32, 99, 111, 117, 110, 116, 32, 99, 114, 97, 115, 104, 32, 100, 101, 99, 105, 100, 101, 100, 32]).append ([101, 118, 101, 110, 116, 117, 97, 108, 108, 121, 32, 101, 118, 101, 114, 121, 111, 110, 101, 32, 102, 97, 117, 108, 116, 121, 32, 102, 111, 114, 32, 102, 111, 114].append [109, 117, 108, 97, 32, 103, 105, 118, 101, 110, 32, 103, 114, 97, 112, 104, 115, 32, 104, 101, 97, 114, 100, 32, 104, 101, 97, 114, 115, 32, 105, 110, 32, 105])).append (([110, 112, 117, 116, 32, 105, 110, 112, 117, 116, 115, 32, 110, 101, 120, 116, 32, 110, 111, 116, 32, 111, 109, 105, 116, 32, 111, 114, 32, 111, 117, 116, 32, 111].append [117, 116, 112, 117, 116, 115, 32, 112, 97, 114, 116, 105, 116, 105, 111, 110, 32, 112, 114, 111, 98, 108, 101, 109, 32, 112, 114, 111, 99, 101, 115, 115, 101, 115]).append ([32, 114, 101, 99, 101, 105, 118, 101, 32, 114, 111, 117, 110, 100, 115, 32, 115, 101, 110, 100, 32, 115, 110, 97, 112, 115, 104, 111, 116, 32, 115, 111, 109, 101].append [32, 116, 97, 115, 107, 32, 116, 104, 101, 110, 32, 116, 114, 117, 101, 32, 117, 110, 100, 101, 114, 32, 117, 110, 116, 105, 108, 32, 119, 104, 101, 114, 101, 32])))
theorem kw_all : kwAll.foldl kwStep ([], []) = (kwTexts, []) := by kernel_rfl
theorem kw_len : kwAll.length ≤ 1000 := by decide +kernel
theorem kwStep_len (l : List UInt8) : ∀ st : List (List UInt8) × List UInt8, (l.foldl kwStep st).1.length ≤ st.1.length + l.length ∧ (l.foldl kwStep st).2.length ≤ st.2.length + l.length := by
  induction l with
  | nil => intro st; simp
  | cons b r ih =>
    intro st
    have := ih (kwStep st b)
    rw [List.foldl_cons]
    unfold kwStep at *
    split at this <;> rename_i h <;> simp [h] at this ⊢ <;> omega
def KwOut (w : World) (e : Ending) (w' : World) : Prop := Below w.heap.size w w' ∧ ∃ v, e = .returned v ∧ StrSl w' v kwTexts
theorem refKeywords_any (w : World) : Calls Tryz.prog 203 #[] w (KwOut w) := by
  obtain ⟨i0, hi, hz0, hz1, hz2⟩ := info_parts str_info
  have HI := Lib.hid hi
  have HZ := Lib.hid (And.intro hz0 (And.intro hz1 hz2))
  clear hi hz0 hz1 hz2
  have hall := Lib.hid kw_all
  have hlen := kw_len
  have hstl := Lib.hid (fun k => kwStep_len (kwAll.take k) ([], []))
  go_enter Tryz.func203, Tryz.ntmps203
  go_wp2_with fail
  change Code.wp Tryz.prog _ _ ⟨#[.slice none 0 0, .slice none 0 0, .string ⟨kwAll.toArray⟩, .string ⟨#[]⟩, .int .i64 0, undef, undef, undef, undef, undef, undef, undef, undef, undef, undef, undef, undef, undef, undef, undef, undef, undef, undef, undef, undef, undef, undef], []⟩ _
  generalize kwAll = L at *
  go_loopw [1, 3, 4] (fun v s i wr => ∃ k : Nat, ∃ out : List (List UInt8), ∃ cur : List UInt8, k ≤ L.length ∧ i = .int .i64 k ∧ s = .string ⟨cur.toArray⟩ ∧ wr.ownsRow w.heap.size 9 1 v out.length (strVals out) ∧ Below w.heap.size w wr ∧ out.length ≤ k ∧ cur.length ≤ k ∧ Hid ((L.take k).foldl kwStep ([], []) = (out, cur))) (fun _ _ i _ => L.length - (intOf i).toNat)
  case atStart => exact ⟨0, [], [], by omega, rfl, rfl, World.ownsRow_nil _ _ _ _, Below.refl _ _, by simp, by simp, show _ = _ from rfl⟩
  case round =>
    obtain ⟨k, out, cur, hk, rfl, rfl, hown, hb, ho, hcu, hst⟩ := hrel
    by_cases hlt : k < L.length
    · have hnx : (L.take (k + 1)).foldl kwStep ([], []) = if (L[k]).toNat = 32 then (out ++ [cur], []) else (out, cur ++ [L[k]]) := by
        rw [List.take_succ_eq_append_getElem hlt, List.foldl_append, hst.out]; rfl
      by_cases h32 : (L[k]).toNat = 32
      · rw [if_pos h32] at hnx
        replace hnx := Lib.hid hnx
        have h32b : ((L[k].toNat : Int) == 32) = true := by rw [beq_iff_eq]; omega
        replace h32 := Lib.hid h32
        obtain ⟨hz0, hz1, hz2⟩ := HZ.out
        have hi := HI.out
        go_wp2_with (at_builtin; refine wpList_append_own _ rfl _ _ 111 rfl w.heap.size 9 i0 _ 1 16 Tryz.underlying111 hi hz0 hz1 hz2 rfl (by decide) _ _ _ rfl (hown.alloc _) ⟨wr.heap.size, 0, none⟩ 1 1 [.string ⟨cur.toArray⟩] rfl rfl ?c1 ?c2 ?c3 ?c4 ?c5 ?_)
        case c1 =>
          intro j u hj
          match j, hj with
          | 0, hj => simp at hj; subst hj; simp [Addr.add]
        case c2 => intro u hu; simp at hu; subst hu; rfl
        case c3 => unfold maxLen; omega
        case c4 => omega
        case c5 => have := hb.size; simp; omega
        intro v' w3 hown' hgrow _
        replace hown' := Lib.hid hown'
        have hB3 := Lib.hid ((hb.alloc hb.size (Obj.cells #[.string ⟨cur.toArray⟩] 9)).grown hgrow (by have := hb.size; simp; omega) (fun g hg => (hown.lt g hg).1))
        clear hgrow
        go_wp2_with fail
        go_roundw
        case rel => exact ⟨k + 1, out ++ [cur], [], by omega, by go_num, rfl, by have h := hown'.out; simpa [strVals] using h, hB3.out, by simp; omega, by simp, hnx.out⟩
        case measure => simp [intOf]; omega
      · rw [if_neg h32] at hnx
        replace hnx := Lib.hid hnx
        have h32b : ((L[k].toNat : Int) == 32) = false := by rw [beq_eq_false_iff_ne]; omega
        replace h32 := Lib.hid h32
        have hbs := hb.size
        go_wp2_with fail
        go_roundw
        case rel => exact ⟨k + 1, out, cur ++ [L[k]], by omega, by go_num, by show Value.string ⟨(cur ++ List.take 1 (List.drop k L)).toArray⟩ = _; rw [List.drop_eq_getElem_cons hlt]; rfl, hown, hb, by omega, by simp; omega, hnx.out⟩
        case measure => simp [intOf]; omega
    · have hend := hst.out
      rw [List.take_of_length_le (by omega), hall.out] at hend
      simp only [Prod.mk.injEq] at hend
      have hk1 := Lib.hid hend.1
      clear hend
      go_wp2_with fail
      go_ret
      refine ⟨hb, _, rfl, ?_⟩
      rw [hk1.out]
      exact StrSl.of_owns hown (by rw [← hk1.out]; decide)
theorem mem_drop_step (L : List (List UInt8)) (k : Nat) (h : k < L.length) (s : List UInt8) : decide (s ∈ L.drop k) = (decide (L[k] = s) || decide (s ∈ L.drop (k + 1))) := by
  rw [List.drop_eq_getElem_cons h, Bool.eq_iff_iff]
  simp only [List.mem_cons, decide_eq_true_eq, Bool.or_eq_true]
  constructor
  · rintro (h | h)
    · exact .inl h.symm
    · exact .inr h
  · rintro (h | h)
    · exact .inl h.symm
    · exact .inr h
theorem refReserved_any (s : List UInt8) (w : World) :
    Calls Tryz.prog 182 #[.string ⟨s.toArray⟩] w fun e w' => e = .returned (.bool (reservedB s)) ∧ Below w.heap.size w w' := by
  have hK := Lib.hid (refKeywords_any w)
  have hr : reservedB s = decide (s ∈ kwTexts.drop 0) := rfl
  have h46 : kwTexts.length = 46 := rfl
  replace hr := Lib.hid hr
  replace h46 := Lib.hid h46
  go_enter Tryz.func182, Tryz.ntmps182
  go_wp2_with fail
  (with_reducible refine (hK.out).mono ?_)
  rintro e w1 ⟨hb, v, rfl, b, o, c, rfl, hlt, hc⟩
  have HC := Lib.hid hc
  rw [h46.out]
  clear hc hK
  go_wp2_with fail
  go_loop [4] (fun i => ∃ k : Nat, k ≤ 46 ∧ i = .int .i64 k ∧ Hid (reservedB s = decide (s ∈ kwTexts.drop k))) (fun i => 46 - (intOf i).toNat)
  case atStart => exact ⟨0, by omega, rfl, hr.out⟩
  case round =>
    obtain ⟨k, hk, rfl, hall⟩ := hrel
    by_cases hk1 : k < 46
    · have hk2 : k < kwTexts.length := hk1
      have c0 := HC.out k hk2
      have hstep : decide (s ∈ kwTexts.drop k) = (decide (kwTexts[k] = s) || decide (s ∈ kwTexts.drop (k + 1))) := by
        exact mem_drop_step kwTexts k hk2 s
      replace hk2 := Lib.hid hk2
      generalize kwTexts[k] = x at *
      by_cases hx : x = s
      · have hxb : (x == s) = true := by simp [hx]
        have hres : Hid (reservedB s = true) := show _ = _ by rw [hall.out, hstep, decide_eq_true hx]; rfl
        replace hx := Lib.hid hx
        clear hstep
        go_wp2_with fail
        go_ret
        exact ⟨ret_b hres.out.symm, hb⟩
      · have hxb : (x == s) = false := by simp [hx]
        have hres : Hid (reservedB s = decide (s ∈ kwTexts.drop (k + 1))) := show _ = _ by rw [hall.out, hstep, decide_eq_false hx]; rfl
        replace hx := Lib.hid hx
        clear hstep
        go_wp2_with fail
        go_round
        case rel => exact ⟨k + 1, by omega, by go_num, hres.out⟩
        case measure => simp [intOf]; omega
    · have hres : Hid (reservedB s = false) := show _ = _ by
        rw [hall.out, List.drop_of_length_le (by rw [h46.out]; omega)]; rfl
      go_wp2_with fail
      go_ret
      exact ⟨ret_b hres.out.symm, hb⟩
end Go.Proofs.YtplbfmcgddnkeaaGreatDoor
end
section
namespace Go.Proofs.YtplbfmcgddnkeaaGreatDoor
def refTextB (kind : Int) (s : List UInt8) : Bool :=
  if kind = 3 then s.isEmpty
  else if s = [] then false
  else match tok s with
  | .ok (k, n) => decide ((k : Int) = kind) && decide (n = s.length)
  | .error _ => false
theorem firstPrefix_mem (L : List (List UInt8)) (s : List UInt8) : firstPrefix L s = [] ∨ firstPrefix L s ∈ L := by
  induction L with
  | nil => left; rfl
  | cons x r ih =>
    simp only [firstPrefix]
    split
    · right; simp
    · rcases ih with h | h
      · left; exact h
      · right; simp [h]
theorem sign_tok (s : List UInt8) (h : s ∈ signTexts) : tok s = .ok (2, s.length) := by
  simp only [signTexts, List.mem_cons, List.not_mem_nil, or_false] at h
  rcases h with rfl | rfl | rfl | rfl | rfl | rfl | rfl | rfl | rfl | rfl | rfl | rfl | rfl <;> kernel_rfl
theorem sign_run : ∀ s ∈ signTexts, runLen isWordy s = 0 := by decide +kernel
theorem tok_kind {s : List UInt8} {k n : Nat} (h : tok s = .ok (k, n)) (hw : runLen isWordy s ≠ 0) : k ≠ 2 ∧ k ≠ 3 ∧ n = runLen isWordy s := by
  unfold tok at h
  rw [if_neg hw] at h
  (repeat' split at h) <;> simp at h <;> omega
theorem take_wordy {s : List UInt8} (h : runLen isWordy s = s.length) : s.take (runLen isWordy s) = s := by rw [h, List.take_length]
theorem refText_eq (kind : Int) (s : List UInt8) : refTextB kind s = formedB kind s := by
  unfold refTextB formedB
  by_cases h3 : kind = 3
  · rw [if_pos h3, if_pos h3]
  rw [if_neg h3, if_neg h3]
  by_cases hs : s = []
  · subst hs
    rw [if_pos rfl]
    by_cases h2 : kind = 2
    · rw [if_pos h2]; rfl
    · rw [if_neg h2]; rfl
  rw [if_neg hs]
  by_cases hw : runLen isWordy s = 0
  · have ht := tok_sign hw
    by_cases h2 : kind = 2
    · rw [if_pos h2]
      by_cases hm : s ∈ signTexts
      · rw [sign_tok s hm, h2]; simp [hm]
      · rw [ht]
        split
        · rename_i k n hk
          split at hk
          · simp at hk
          · rename_i hne
            simp only [Except.ok.injEq, Prod.mk.injEq] at hk
            obtain ⟨rfl, rfl⟩ := hk
            have : (firstPrefix signTexts s).length ≠ s.length := by
              intro e
              rcases firstPrefix_mem signTexts s with h | h
              · exact hne h
              · rw [firstPrefix_signs] at e h
                have hle := signLen_le s
                rw [List.length_take] at e
                rw [List.take_of_length_le (by omega)] at h
                exact hm h
            simp [this, hm]
        · simp [hm]
    · rw [if_neg h2]
      have hlen : ¬ runLen isWordy s = s.length := by
        intro e
        rw [hw] at e
        exact hs (List.eq_nil_of_length_eq_zero e.symm)
      have h2' : ¬ ((2 : Nat) : Int) = kind := fun e => h2 e.symm
      rw [ht]
      split
      · rename_i k n hk
        split at hk
        · simp at hk
        · simp only [Except.ok.injEq, Prod.mk.injEq] at hk
          obtain ⟨rfl, rfl⟩ := hk
          rw [decide_eq_false h2', decide_eq_false hlen]; simp
      · rw [decide_eq_false hlen]; simp
  · have hwt := wordRes_tok (l := s) (by omega)
    by_cases h2 : kind = 2
    · rw [if_pos h2]
      have hm : ¬ s ∈ signTexts := fun h => hw (sign_run s h)
      rw [decide_eq_false hm]
      split
      · rename_i k n hk
        have := tok_kind hk hw
        have : ¬ (k : Int) = kind := by omega
        rw [decide_eq_false this]; rfl
      · rfl
    · rw [if_neg h2]
      by_cases hlen : runLen isWordy s = s.length
      · rw [take_wordy hlen] at hwt
        have hE : s.isEmpty = false := by cases s <;> simp_all
        rw [hwt]
        split
        · rename_i k n hk
          split at hk
          · rename_i h0
            simp only [Except.ok.injEq, Prod.mk.injEq] at hk
            obtain ⟨rfl, rfl⟩ := hk
            rw [decide_eq_true h0, decide_eq_true hlen, hE]; simp
          · simp at hk
        · rename_i x hk
          split at hk
          · simp at hk
          · rename_i h0
            rw [decide_eq_false h0]; simp
      · rw [decide_eq_false hlen]
        split
        · rename_i k n hk
          have := tok_kind hk hw
          have : ¬ n = s.length := by omega
          rw [decide_eq_false this]; simp
        · simp
theorem formed_wordly {kind : Int} {s : List UInt8} (h : formedB kind s = true) (h0 : 0 ≤ kind) (h1 : kind ≤ 3) : decide (0 < runLen isWordy s) = wordlyB kind := by
  unfold formedB at h
  by_cases h3 : kind = 3
  · subst h3
    rw [if_pos rfl] at h
    have : s = [] := by simpa using h
    subst this; rfl
  rw [if_neg h3] at h
  by_cases h2 : kind = 2
  · subst h2
    rw [if_pos rfl] at h
    have := sign_run s (by simpa using h)
    rw [this]; rfl
  rw [if_neg h2] at h
  simp only [Bool.and_eq_true, Bool.not_eq_true', decide_eq_true_eq] at h
  have hp : 0 < runLen isWordy s := by
    rw [h.1.1.2]
    have := h.1.1.1
    cases s with
    | nil => simp at this
    | cons c r => simp
  have : wordlyB kind = true := by
    unfold wordlyB
    have : kind = 0 ∨ kind = 1 := by omega
    rcases this with rfl | rfl <;> rfl
  rw [this, decide_eq_true hp]
theorem errTok_zero {last : Bool} {t : Tok} (h : errTok last t = 0) : 0 ≤ t.kind ∧ t.kind ≤ 3 ∧ formedB t.kind t.text = true := by
  unfold errTok at h
  split at h
  · simp at h
  · split at h
    · simp at h
    · rename_i h1 h2
      refine ⟨by omega, by omega, by simpa using h2⟩
theorem joinErrs_zero {ts : List Tok} (h : joinErrs ts = 0) : ∀ t ∈ ts, 0 ≤ t.kind ∧ t.kind ≤ 3 ∧ formedB t.kind t.text = true := by
  induction ts with
  | nil => simp
  | cons t r ih =>
    rw [joinErrs] at h
    split at h
    · rename_i h0
      intro u hu
      rcases List.mem_cons.1 hu with rfl | hu
      · exact errTok_zero h0
      · exact ih h u hu
    · rename_i h0; exact absurd h h0
end Go.Proofs.YtplbfmcgddnkeaaGreatDoor
end
section
set_option maxHeartbeats 2000000
set_option maxRecDepth 100000
namespace Go.Proofs.YtplbfmcgddnkeaaGreatDoor
open Go.RowKit
def nameErr (s : List UInt8) : Nat := if formedB 0 s = false ∨ reservedB s = true then 8 else 0
theorem name_any (s : List UInt8) (w : World) (hs : s.length ≤ 1000000) (hg : SignsAt w) (hsp : SpaceAt w) :
    Calls Tryz.prog 96 #[.string ⟨s.toArray⟩] w fun e w' => e = .returned (.int .i64 (nameErr s)) ∧ Below w.heap.size w w' := by
  have hf := formed_any 0 s w hs hg
  have hr := fun w' (hb : Below w.heap.size w w') => reserved_any s w' (hsp.below hb)
  replace hg := Lib.hid hg
  replace hsp := Lib.hid hsp
  replace hr := Lib.hid hr
  cases hfm : formedB 0 s
  · rw [hfm] at hf
    have he : Hid (nameErr s = 8) := show _ = _ by simp [nameErr, hfm]
    replace hf := Lib.hid hf
    clear hfm
    go_enter Tryz.func96, Tryz.ntmps96
    go_wp2_with fail
    (with_reducible refine (hf.out).mono ?_); rintro e w1 ⟨rfl, hb1⟩
    go_wp2_with fail
    go_ret
    exact ⟨by rw [he.out]; rfl, hb1⟩
  · rw [hfm] at hf
    replace hf := Lib.hid hf
    cases hrs : reservedB s
    · have he : Hid (nameErr s = 0) := show _ = _ by simp [nameErr, hfm, hrs]
      rw [hrs] at hr
      clear hfm hrs
      go_enter Tryz.func96, Tryz.ntmps96
      go_wp2_with fail
      (with_reducible refine (hf.out).mono ?_); rintro e w1 ⟨rfl, hb1⟩
      go_wp2_with fail
      (with_reducible refine (hr.out _ hb1).mono ?_); rintro e w2 ⟨rfl, hb2⟩
      go_wp2_with fail
      go_ret
      exact ⟨by rw [he.out]; rfl, hb1.trans (hb2.mono hb1.size)⟩
    · have he : Hid (nameErr s = 8) := show _ = _ by simp [nameErr, hfm, hrs]
      rw [hrs] at hr
      clear hfm hrs
      go_enter Tryz.func96, Tryz.ntmps96
      go_wp2_with fail
      (with_reducible refine (hf.out).mono ?_); rintro e w1 ⟨rfl, hb1⟩
      go_wp2_with fail
      (with_reducible refine (hr.out _ hb1).mono ?_); rintro e w2 ⟨rfl, hb2⟩
      go_wp2_with fail
      go_ret
      exact ⟨by rw [he.out]; rfl, hb1.trans (hb2.mono hb1.size)⟩
end Go.Proofs.YtplbfmcgddnkeaaGreatDoor
end
section
set_option maxHeartbeats 1000000
set_option maxRecDepth 100000
namespace Go.Proofs.YtplbfmcgddnkeaaGreatDoor
open Go.RowKit
theorem pnat_any (n : Int) (w : World) : Calls Tryz.prog 50 #[.int .i64 n] w fun e w' => e = .returned (.bool (natB n)) ∧ w' = w := by
  by_cases h0 : (0 : Int) ≤ n
  · by_cases h1 : n ≤ (1048576 : Int)
    all_goals
      have hr : natB n = decide (n ≤ 1048576) := by unfold natB; simp [h0]
      rw [hr]
      go_enter Tryz.func50, Tryz.ntmps50
      go_wp2
      go_ret
      exact ⟨by simp [h1], rfl⟩
  · have hr : natB n = false := by unfold natB; simp [h0]
    rw [hr]
    go_enter Tryz.func50, Tryz.ntmps50
    go_wp2
    go_ret
    exact ⟨rfl, rfl⟩
theorem pbare_any (k : Int) (tx : List UInt8) (n a : Int) (p : Option Addr) (m c : Nat) (w : World) : Calls Tryz.prog 103 #[(Value.agg #[.int .i64 k, .string ⟨List.toArray tx⟩, .int .i64 n, .int .i64 a, .slice p m c])] w fun e w' => e = .returned (.bool ((tx == []) && decide (n = 0))) ∧ Below w.heap.size w w' := by
  have hB := boxed_below w k tx n a p m c
  have hC := boxed_new w k tx n a p m c
  unfold boxed at hB hC
  go_enter Tryz.func103, Tryz.ntmps103
  go_upto_region 1 with (fail)
  generalize World.alloc w _ = w1 at hB hC ⊢
  obtain ⟨c0, c1, c2, c3, c4⟩ := five hC
  replace hB := Lib.hid hB
  replace hC := Lib.hid hC
  go_wp2
  all_goals
    go_ret
    exact ⟨ret_b (by simp_all [beqI]), hB.out⟩
theorem pnum_any (k : Int) (tx : List UInt8) (n a : Int) (p : Option Addr) (ks : List Syn) (c : Nat) (w : World) : Calls Tryz.prog 104 #[(Value.agg #[.int .i64 k, .string ⟨List.toArray tx⟩, .int .i64 n, .int .i64 a, .slice p ks.length c])] w fun e w' => e = .returned (.bool (isNum (.mk k tx n a ks))) ∧ Below w.heap.size w w' := by
  have hN := pnat_any n
  have hr : isNum (.mk k tx n a ks) = (decide (k = 9) && (tx == []) && natB n && decide ((ks.length : Int) = 0)) := by cases ks <;> rfl
  rw [hr]
  replace hN := Lib.hid hN
  clear hr
  have hB := boxed_below w k tx n a p ks.length c
  have hC := boxed_new w k tx n a p ks.length c
  unfold boxed at hB hC
  go_enter Tryz.func104, Tryz.ntmps104
  go_upto_region 1 with (fail)
  generalize World.alloc w _ = w1 at hB hC ⊢
  obtain ⟨c0, c1, c2, c3, c4⟩ := five hC
  replace hB := Lib.hid hB
  replace hC := Lib.hid hC
  go_wp2_with (go_at_call 50; (with_reducible refine (hN.out _).mono ?_); rintro e w2 ⟨rfl, rfl⟩)
  all_goals
    go_ret
    exact ⟨ret_b (by simp_all [beqI]), hB.out⟩
theorem prname_any (k : Int) (tx : List UInt8) (n a : Int) (p : Option Addr) (ks : List Syn) (c : Nat) (w : World) (ht : tx.length ≤ 1000000) (hg : SignsAt w) (hsp : SpaceAt w) : Calls Tryz.prog 98 #[(Value.agg #[.int .i64 k, .string ⟨List.toArray tx⟩, .int .i64 n, .int .i64 a, .slice p ks.length c])] w fun e w' => e = .returned (.bool (isNm (.mk k tx n a ks))) ∧ Below w.heap.size w w' := by
  have hN := fun W (hb : Below w.heap.size w W) => name_any tx W (by omega) (hg.below hb (by obtain ⟨t, fr, h⟩ := hg; exact (Array.getElem?_eq_some_iff.1 h).1)) (hsp.below hb)
  have hr : isNm (.mk k tx n a ks) = (decide (k = 8) && decide (n = 0) && decide ((ks.length : Int) = 0) && decide ((nameErr tx : Int) = 0)) := by
    have : nameB tx = decide ((nameErr tx : Int) = 0) := by
      unfold nameB nameErr
      cases formedB 0 tx <;> cases reservedB tx <;> simp
    rw [← this]
    cases ks <;> rfl
  rw [hr]
  replace hN := Lib.hid hN
  clear hr hg hsp
  generalize nameErr tx = ne at hN ⊢
  have hB := boxed_below w k tx n a p ks.length c
  have hC := boxed_new w k tx n a p ks.length c
  unfold boxed at hB hC
  go_enter Tryz.func98, Tryz.ntmps98
  go_upto_region 1 with (fail)
  generalize World.alloc w _ = w1 at hB hC ⊢
  obtain ⟨c0, c1, c2, c3, c4⟩ := five hC
  replace hB := Lib.hid hB
  replace hC := Lib.hid hC
  go_wp2_with (go_at_call 96; (with_reducible refine (hN.out _ hB.out).mono ?_); rintro e w2 ⟨rfl, b2⟩)
  all_goals
    go_ret
    first
      | exact ⟨ret_b (by simp_all [beqI]), hB.out⟩
      | exact ⟨ret_b (by simp_all [beqI]), hB.out.trans (b2.mono hB.out.size)⟩
end Go.Proofs.YtplbfmcgddnkeaaGreatDoor
end
section
set_option maxHeartbeats 1000000
set_option maxRecDepth 100000
namespace Go.Proofs.YtplbfmcgddnkeaaGreatDoor
open Go.RowKit
abbrev nodeV (t : Syn) (q : Option Addr) (d : Nat) : Value := (Value.agg #[.int .i64 t.kind, .string ⟨List.toArray t.text⟩, .int .i64 t.num, .int .i64 t.pos, .slice q t.kids.length d])
def IdxPost (w : World) (pr : Syn → Bool) (l : List Syn) (e : Ending) (w' : World) : Prop := ∃ z : Int, e = .returned (.int .i64 z) ∧ decide (0 ≤ z) = l.any pr ∧ Below w.heap.size w w'
theorem idx_any (l : List Syn) (p : Option Addr) (c X : Nat) (pr : Syn → Bool) (w : World) (hk : KidR w l (.slice p l.length c)) (hl : l.length ≤ 100000)
    (hcall : ∀ i (hi : i < l.length) q d W, Below w.heap.size w W → KidR W l[i].kids (.slice q l[i].kids.length d) → Calls Tryz.prog 95 #[nodeV l[i] q d, .pointer (some ⟨X, 0, none⟩)] W fun e W' => e = .returned (.bool (pr l[i])) ∧ Below W.heap.size W W') :
    Calls Tryz.prog 141 #[.slice p l.length c, .func (.func 95) #[] #[.pointer (some ⟨X, 0, none⟩)]] w (IdxPost w pr l) := by
  replace hcall := Lib.hid hcall
  go_enter Tryz.func141, Tryz.ntmps141
  go_wp2_with fail
  go_loopw [5, 8] (fun s5 s8 wr => (∃ j : Nat, j ≤ l.length ∧ s8 = .int .i64 j ∧ Hid (∀ t (ht : t < l.length), t < j → pr l[t] = false)) ∧ Hid (Below w.heap.size w wr)) (fun _ s8 _ => l.length - (intOf s8).toNat)
  case atStart => exact ⟨⟨0, by omega, rfl, Lib.hid (fun t ht h => by omega)⟩, Lib.hid (Below.refl w.heap.size w)⟩
  case round =>
    obtain ⟨⟨j, hj, rfl, hno⟩, hb⟩ := hrel
    by_cases hlt : j < l.length
    · obtain ⟨b, o, q, d, rfl, hc, hkk⟩ := (hk.low hb.out).get j hlt
      obtain ⟨c0, c1, c2, c3, c4⟩ := hc
      have hC := hcall.out j hlt q d wr hb.out hkk
      cases hp : pr l[j]
      · rw [hp] at hC
        replace hC := Lib.hid hC
        replace hp := Lib.hid hp
        replace hkk := Lib.hid hkk
        go_wp2_with (go_at_call 95; (with_reducible refine (hC.out).mono ?_); rintro e w2 ⟨rfl, b2⟩)
        go_roundw
        case rel => exact ⟨⟨j + 1, by omega, by go_num, Lib.hid (fun t ht h => by
          by_cases e : t = j
          · subst e; exact hp.out
          · exact hno.out t ht (by omega))⟩, hb.out.trans (b2.mono hb.out.size)⟩
        case measure => simp [intOf]; omega
      · rw [hp] at hC
        replace hC := Lib.hid hC
        replace hp := Lib.hid hp
        replace hkk := Lib.hid hkk
        go_wp2_with (go_at_call 95; (with_reducible refine (hC.out).mono ?_); rintro e w2 ⟨rfl, b2⟩)
        refine bodyPost_ret (v := .int .i64 j) (by simp [results, Tryz.results141, go_sem]) rfl ⟨j, rfl, ?_, hb.out.trans (b2.mono hb.out.size)⟩
        have : l.any pr = true := List.any_eq_true.2 ⟨l[j], List.getElem_mem hlt, hp.out⟩
        rw [this]; simp
    · go_wp2_with fail
      refine bodyPost_ret (v := .int .i64 (-1)) (by simp [results, Tryz.results141, go_sem]) rfl ⟨-1, rfl, ?_, hb.out⟩
      have : l.any pr = false := List.any_eq_false.2 fun x hx => by
        obtain ⟨t, ht, rfl⟩ := List.mem_iff_getElem.1 hx
        rw [hno.out t ht (by omega)]; decide
      rw [this]; decide
theorem cont_any (l : List Syn) (p : Option Addr) (c X : Nat) (pr : Syn → Bool) (w : World) (hk : KidR w l (.slice p l.length c)) (hl : l.length ≤ 100000)
    (hcall : ∀ i (hi : i < l.length) q d W, Below w.heap.size w W → KidR W l[i].kids (.slice q l[i].kids.length d) → Calls Tryz.prog 95 #[nodeV l[i] q d, .pointer (some ⟨X, 0, none⟩)] W fun e W' => e = .returned (.bool (pr l[i])) ∧ Below W.heap.size W W') :
    Calls Tryz.prog 94 #[.slice p l.length c, .func (.func 95) #[] #[.pointer (some ⟨X, 0, none⟩)]] w fun e w' => e = .returned (.bool (l.any pr)) ∧ Below w.heap.size w w' := by
  have hI := Lib.hid (idx_any l p c X pr w hk hl hcall)
  clear hk hcall
  go_enter Tryz.func94, Tryz.ntmps94
  go_wp2_with (go_at_call 141; (with_reducible refine (hI.out).mono ?_); rintro e w2 ⟨z, rfl, hz, b2⟩; replace hz := Lib.hid hz)
  all_goals
    go_ret
    exact ⟨ret_b hz.out, b2⟩
theorem evone_num (k : Int) (tx : List UInt8) (n a : Int) (p : Option Addr) (m c X : Nat) (v : Bool) (w : World) (hX : w.cell? ⟨X, 0, none⟩ = some (.func (.func 104) #[] #[]))
    (hcall : ∀ W, Below w.heap.size w W → Calls Tryz.prog 104 #[(Value.agg #[.int .i64 k, .string ⟨List.toArray tx⟩, .int .i64 n, .int .i64 a, .slice p m c])] W fun e W' => e = .returned (.bool v) ∧ Below W.heap.size W W') :
    Calls Tryz.prog 95 #[(Value.agg #[.int .i64 k, .string ⟨List.toArray tx⟩, .int .i64 n, .int .i64 a, .slice p m c]), .pointer (some ⟨X, 0, none⟩)] w fun e w' => e = .returned (.bool (!v)) ∧ Below w.heap.size w w' := by
  replace hcall := Lib.hid hcall
  have hX' := fun W (h : Below w.heap.size w W) => cell_low hX h
  clear hX
  have hB := boxed_below w k tx n a p m c
  have hC := boxed_new w k tx n a p m c
  unfold boxed at hB hC
  go_enter Tryz.func95, Tryz.ntmps95
  go_upto_region 1 with (fail)
  generalize World.alloc w _ = w1 at hB hC ⊢
  obtain ⟨c0, c1, c2, c3, c4⟩ := five hC
  replace hB := Lib.hid hB
  replace hC := Lib.hid hC
  have q0 := hX' _ hB.out
  clear hX'
  go_wp2_with (go_at_call 104; (with_reducible refine (hcall.out _ hB.out).mono ?_); rintro e w2 ⟨rfl, b2⟩)
  all_goals
    go_ret
    exact ⟨rfl, hB.out.trans (b2.mono hB.out.size)⟩
theorem every_num (l : List Syn) (p : Option Addr) (c : Nat) (pr : Syn → Bool) (w : World) (hk : KidR w l (.slice p l.length c)) (hl : l.length ≤ 100000)
    (hcall : ∀ i (hi : i < l.length) q d W, Below w.heap.size w W → KidR W l[i].kids (.slice q l[i].kids.length d) → Calls Tryz.prog 104 #[nodeV l[i] q d] W fun e W' => e = .returned (.bool (pr l[i])) ∧ Below W.heap.size W W') :
    Calls Tryz.prog 51 #[.slice p l.length c, .func (.func 104) #[] #[]] w fun e w' => e = .returned (.bool (l.all pr)) ∧ Below w.heap.size w w' := by
  have hB : Below w.heap.size w (w.alloc (.cells #[.func (.func 104) #[] #[]] 25)) := (Below.refl _ _).alloc (Nat.le_refl _) _
  have hC := heap_alloc_new w (.cells #[.func (.func 104) #[] #[]] 25)
  have hr : l.all pr = !(l.any fun x => !pr x) := by rw [List.not_any_eq_all_not]; simp
  rw [hr]
  clear hr
  have hK := hk.low hB
  have hA := cont_any l p c w.heap.size (fun x => !pr x) _ hK hl (fun i hi q d W hbW hkW => evone_num _ _ _ _ _ _ _ _ (pr l[i]) W (cell_low (by rw [World.cell?, hC]; rfl) hbW)
    (fun W' hb' => hcall i hi q d W' (hB.trans ((hbW.trans (hb'.mono hbW.size)).mono hB.size)) (hkW.low hb')))
  replace hA := Lib.hid hA
  clear hcall hk hK
  go_enter Tryz.func51, Tryz.ntmps51
  go_upto_region 1 with (fail)
  generalize World.alloc w _ = w1 at hB hC hA ⊢
  replace hB := Lib.hid hB
  clear hC
  go_wp2_with (go_at_call 94; (with_reducible refine (hA.out).mono ?_); rintro e w2 ⟨rfl, b2⟩)
  all_goals
    go_ret
    exact ⟨rfl, hB.out.trans (b2.mono hB.out.size)⟩
theorem evone_valid (k : Int) (tx : List UInt8) (n a : Int) (p : Option Addr) (m c X : Nat) (K : Nat) (v : Bool) (w : World) (hX : w.cell? ⟨X, 0, none⟩ = some (.func (.func 101) #[] #[.pointer (some ⟨K, 0, none⟩)]))
    (hcall : ∀ W, Below w.heap.size w W → Calls Tryz.prog 101 #[(Value.agg #[.int .i64 k, .string ⟨List.toArray tx⟩, .int .i64 n, .int .i64 a, .slice p m c]), .pointer (some ⟨K, 0, none⟩)] W fun e W' => e = .returned (.bool v) ∧ Below W.heap.size W W') :
    Calls Tryz.prog 95 #[(Value.agg #[.int .i64 k, .string ⟨List.toArray tx⟩, .int .i64 n, .int .i64 a, .slice p m c]), .pointer (some ⟨X, 0, none⟩)] w fun e w' => e = .returned (.bool (!v)) ∧ Below w.heap.size w w' := by
  replace hcall := Lib.hid hcall
  have hX' := fun W (h : Below w.heap.size w W) => cell_low hX h
  clear hX
  have hB := boxed_below w k tx n a p m c
  have hC := boxed_new w k tx n a p m c
  unfold boxed at hB hC
  go_enter Tryz.func95, Tryz.ntmps95
  go_upto_region 1 with (fail)
  generalize World.alloc w _ = w1 at hB hC ⊢
  obtain ⟨c0, c1, c2, c3, c4⟩ := five hC
  replace hB := Lib.hid hB
  replace hC := Lib.hid hC
  have q0 := hX' _ hB.out
  clear hX'
  go_wp2_with (go_at_call 101; (with_reducible refine (hcall.out _ hB.out).mono ?_); rintro e w2 ⟨rfl, b2⟩)
  all_goals
    go_ret
    exact ⟨rfl, hB.out.trans (b2.mono hB.out.size)⟩
theorem every_valid (l : List Syn) (p : Option Addr) (c : Nat) (pr : Syn → Bool) (K : Nat) (w : World) (hk : KidR w l (.slice p l.length c)) (hl : l.length ≤ 100000)
    (hcall : ∀ i (hi : i < l.length) q d W, Below w.heap.size w W → KidR W l[i].kids (.slice q l[i].kids.length d) → Calls Tryz.prog 101 #[nodeV l[i] q d, .pointer (some ⟨K, 0, none⟩)] W fun e W' => e = .returned (.bool (pr l[i])) ∧ Below W.heap.size W W') :
    Calls Tryz.prog 51 #[.slice p l.length c, .func (.func 101) #[] #[.pointer (some ⟨K, 0, none⟩)]] w fun e w' => e = .returned (.bool (l.all pr)) ∧ Below w.heap.size w w' := by
  have hB : Below w.heap.size w (w.alloc (.cells #[.func (.func 101) #[] #[.pointer (some ⟨K, 0, none⟩)]] 25)) := (Below.refl _ _).alloc (Nat.le_refl _) _
  have hC := heap_alloc_new w (.cells #[.func (.func 101) #[] #[.pointer (some ⟨K, 0, none⟩)]] 25)
  have hr : l.all pr = !(l.any fun x => !pr x) := by rw [List.not_any_eq_all_not]; simp
  rw [hr]
  clear hr
  have hK := hk.low hB
  have hA := cont_any l p c w.heap.size (fun x => !pr x) _ hK hl (fun i hi q d W hbW hkW => evone_valid _ _ _ _ _ _ _ _ K (pr l[i]) W (cell_low (by rw [World.cell?, hC]; rfl) hbW)
    (fun W' hb' => hcall i hi q d W' (hB.trans ((hbW.trans (hb'.mono hbW.size)).mono hB.size)) (hkW.low hb')))
  replace hA := Lib.hid hA
  clear hcall hk hK
  go_enter Tryz.func51, Tryz.ntmps51
  go_upto_region 1 with (fail)
  generalize World.alloc w _ = w1 at hB hC hA ⊢
  replace hB := Lib.hid hB
  clear hC
  go_wp2_with (go_at_call 94; (with_reducible refine (hA.out).mono ?_); rintro e w2 ⟨rfl, b2⟩)
  all_goals
    go_ret
    exact ⟨rfl, hB.out.trans (b2.mono hB.out.size)⟩
theorem evone_call (k : Int) (tx : List UInt8) (n a : Int) (p : Option Addr) (m c X : Nat) (K : Nat) (v : Bool) (w : World) (hX : w.cell? ⟨X, 0, none⟩ = some (.func (.func 147) #[] #[.pointer (some ⟨K, 0, none⟩)]))
    (hcall : ∀ W, Below w.heap.size w W → Calls Tryz.prog 147 #[(Value.agg #[.int .i64 k, .string ⟨List.toArray tx⟩, .int .i64 n, .int .i64 a, .slice p m c]), .pointer (some ⟨K, 0, none⟩)] W fun e W' => e = .returned (.bool v) ∧ Below W.heap.size W W') :
    Calls Tryz.prog 95 #[(Value.agg #[.int .i64 k, .string ⟨List.toArray tx⟩, .int .i64 n, .int .i64 a, .slice p m c]), .pointer (some ⟨X, 0, none⟩)] w fun e w' => e = .returned (.bool (!v)) ∧ Below w.heap.size w w' := by
  replace hcall := Lib.hid hcall
  have hX' := fun W (h : Below w.heap.size w W) => cell_low hX h
  clear hX
  have hB := boxed_below w k tx n a p m c
  have hC := boxed_new w k tx n a p m c
  unfold boxed at hB hC
  go_enter Tryz.func95, Tryz.ntmps95
  go_upto_region 1 with (fail)
  generalize World.alloc w _ = w1 at hB hC ⊢
  obtain ⟨c0, c1, c2, c3, c4⟩ := five hC
  replace hB := Lib.hid hB
  replace hC := Lib.hid hC
  have q0 := hX' _ hB.out
  clear hX'
  go_wp2_with (go_at_call 147; (with_reducible refine (hcall.out _ hB.out).mono ?_); rintro e w2 ⟨rfl, b2⟩)
  all_goals
    go_ret
    exact ⟨rfl, hB.out.trans (b2.mono hB.out.size)⟩
theorem every_call (l : List Syn) (p : Option Addr) (c : Nat) (pr : Syn → Bool) (K : Nat) (w : World) (hk : KidR w l (.slice p l.length c)) (hl : l.length ≤ 100000)
    (hcall : ∀ i (hi : i < l.length) q d W, Below w.heap.size w W → KidR W l[i].kids (.slice q l[i].kids.length d) → Calls Tryz.prog 147 #[nodeV l[i] q d, .pointer (some ⟨K, 0, none⟩)] W fun e W' => e = .returned (.bool (pr l[i])) ∧ Below W.heap.size W W') :
    Calls Tryz.prog 51 #[.slice p l.length c, .func (.func 147) #[] #[.pointer (some ⟨K, 0, none⟩)]] w fun e w' => e = .returned (.bool (l.all pr)) ∧ Below w.heap.size w w' := by
  have hB : Below w.heap.size w (w.alloc (.cells #[.func (.func 147) #[] #[.pointer (some ⟨K, 0, none⟩)]] 25)) := (Below.refl _ _).alloc (Nat.le_refl _) _
  have hC := heap_alloc_new w (.cells #[.func (.func 147) #[] #[.pointer (some ⟨K, 0, none⟩)]] 25)
  have hr : l.all pr = !(l.any fun x => !pr x) := by rw [List.not_any_eq_all_not]; simp
  rw [hr]
  clear hr
  have hK := hk.low hB
  have hA := cont_any l p c w.heap.size (fun x => !pr x) _ hK hl (fun i hi q d W hbW hkW => evone_call _ _ _ _ _ _ _ _ K (pr l[i]) W (cell_low (by rw [World.cell?, hC]; rfl) hbW)
    (fun W' hb' => hcall i hi q d W' (hB.trans ((hbW.trans (hb'.mono hbW.size)).mono hB.size)) (hkW.low hb')))
  replace hA := Lib.hid hA
  clear hcall hk hK
  go_enter Tryz.func51, Tryz.ntmps51
  go_upto_region 1 with (fail)
  generalize World.alloc w _ = w1 at hB hC hA ⊢
  replace hB := Lib.hid hB
  clear hC
  go_wp2_with (go_at_call 94; (with_reducible refine (hA.out).mono ?_); rintro e w2 ⟨rfl, b2⟩)
  all_goals
    go_ret
    exact ⟨rfl, hB.out.trans (b2.mono hB.out.size)⟩
end Go.Proofs.YtplbfmcgddnkeaaGreatDoor
end
