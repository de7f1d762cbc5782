/- Walks: Keywords, Reserved, Name, SameWords of the reference. -/
import Derived.Test.YtpgedklpnnhjlaaGreatDoorRefD
import Derived.Test.YtpgedklpnnhjlaaGreatDoorLexH
set_option maxHeartbeats 2000000
set_option maxRecDepth 100000
namespace Go.Proofs.YtpgedklpnnhjlaaGreatDoor
open Go.RowKit
theorem str_info : (Tryz.prog.info? 9).map (fun i => (i.zero, i.size, i.bytes)) = some (some (.string ByteArray.empty), 1, 16) := by kernel_rfl
/-- The cells of strings. -/
def strVals (l : List (List UInt8)) : List Value := l.map fun x => .string ⟨x.toArray⟩
/-- A slice value that reads as strings. -/
def StrSl (w : World) (v : Value) (l : List (List UInt8)) : Prop :=
  ∃ b o c, v = .slice (some ⟨b, o, none⟩) l.length c ∧ b < w.heap.size ∧ ∀ k (h : k < l.length), w.cell? ⟨b, o + k, none⟩ = some (.string ⟨l[k].toArray⟩)
theorem StrSl.below {w w' : World} {v : Value} {l : List (List UInt8)} (h : StrSl w v l) (hb : Below w.heap.size w w') : StrSl w' v l := by
  obtain ⟨b, o, c, rfl, hlt, hc⟩ := h
  exact ⟨b, o, c, rfl, by have := hb.size; omega, fun k hk => by rw [hb.cell hlt]; exact hc k hk⟩
theorem StrSl.of_owns {w : World} {B : Nat} {v : Value} {l : List (List UInt8)} (h : w.ownsRow B 9 1 v l.length (strVals l)) (hl : 0 < l.length) : StrSl w v l := by
  rcases h.2 with ⟨rfl, h0⟩ | ⟨g, cap, cur, rfl, hB, hg, r⟩
  · omega
  · refine ⟨g, 0, cap, rfl, (Array.getElem?_eq_some_iff.1 hg).1, fun k hk => ?_⟩
    have hc := fun j u => h.cells (g := g) (by simp [Value.ownBlock]) j u
    have ha : ∀ j, (⟨g, 0, none⟩ : Addr).add j = ⟨g, j, none⟩ := fun j => by unfold Addr.add; split <;> simp_all
    simp only [ha] at hc
    rw [Nat.zero_add]
    exact hc _ _ (by simp [strVals, hk])
def kwStep (st : List (List UInt8) × List UInt8) (b : UInt8) : List (List UInt8) × List UInt8 := if b.toNat = 32 then (st.1 ++ [st.2], []) else (st.1, st.2 ++ [b])
def kwAll : List UInt8 := ((([67, 32, 68, 32, 69, 32, 75, 32, 97, 100, 118, 101, 114, 115, 97, 114, 121, 32, 97, 108, 108, 32, 97, 108, 108, 111, 119, 32, 97, 108, 119, 97, 121].append [115, 32, 97, 110, 100, 32, 97, 116, 32, 99, 97, 108, 109, 32, 99, 111, 117, 110, 116, 32, 99, 114, 97, 115, 104, 32, 100, 101, 99, 105, 100, 101, 100, 32]).append ([101, 118, 101, 110, 116, 117, 97, 108, 108, 121, 32, 101, 118, 101, 114, 121, 111, 110, 101, 32, 102, 97, 117, 108, 116, 121, 32, 102, 111, 114, 32, 102, 111, 114].append [109, 117, 108, 97, 32, 103, 105, 118, 101, 110, 32, 103, 114, 97, 112, 104, 115, 32, 104, 101, 97, 114, 100, 32, 104, 101, 97, 114, 115, 32, 105, 110, 32, 105])).append (([110, 112, 117, 116, 32, 105, 110, 112, 117, 116, 115, 32, 110, 101, 120, 116, 32, 110, 111, 116, 32, 111, 109, 105, 116, 32, 111, 114, 32, 111, 117, 116, 32, 111].append [117, 116, 112, 117, 116, 115, 32, 112, 97, 114, 116, 105, 116, 105, 111, 110, 32, 112, 114, 111, 98, 108, 101, 109, 32, 112, 114, 111, 99, 101, 115, 115, 101, 115]).append ([32, 114, 101, 99, 101, 105, 118, 101, 32, 114, 111, 117, 110, 100, 115, 32, 115, 101, 110, 100, 32, 115, 110, 97, 112, 115, 104, 111, 116, 32, 115, 111, 109, 101].append [32, 116, 97, 115, 107, 32, 116, 104, 101, 110, 32, 116, 114, 117, 101, 32, 117, 110, 100, 101, 114, 32, 117, 110, 116, 105, 108, 32, 119, 104, 101, 114, 101, 32])))
theorem kw_all : kwAll.foldl kwStep ([], []) = (kwTexts, []) := by kernel_rfl
theorem kw_len : kwAll.length ≤ 1000 := by decide +kernel
theorem kwStep_len (l : List UInt8) : ∀ st : List (List UInt8) × List UInt8, (l.foldl kwStep st).1.length ≤ st.1.length + l.length ∧ (l.foldl kwStep st).2.length ≤ st.2.length + l.length := by
  induction l with
  | nil => intro st; simp
  | cons b r ih =>
    intro st
    have := ih (kwStep st b)
    rw [List.foldl_cons]
    unfold kwStep at *
    split at this <;> rename_i h <;> simp [h] at this ⊢ <;> omega
def KwOut (w : World) (e : Ending) (w' : World) : Prop := Below w.heap.size w w' ∧ ∃ v, e = .returned v ∧ StrSl w' v kwTexts
theorem refKeywords_any (w : World) : Calls Tryz.prog 21 #[] w (KwOut w) := by
  obtain ⟨i0, hi, hz0, hz1, hz2⟩ := info_parts str_info
  have HI := Lib.hid hi
  have HZ := Lib.hid (And.intro hz0 (And.intro hz1 hz2))
  clear hi hz0 hz1 hz2
  have hall := Lib.hid kw_all
  have hlen := kw_len
  have hstl := Lib.hid (fun k => kwStep_len (kwAll.take k) ([], []))
  go_enter Tryz.func21, Tryz.ntmps21
  go_wp2_with fail
  change Code.wp Tryz.prog _ _ ⟨#[.slice none 0 0, .slice none 0 0, .string ⟨kwAll.toArray⟩, .string ⟨#[]⟩, .int .i64 0, undef, undef, undef, undef, undef, undef, undef, undef, undef, undef, undef, undef, undef, undef, undef, undef, undef, undef, undef, undef, undef, undef], []⟩ _
  generalize kwAll = L at *
  go_loopw [1, 3, 4] (fun v s i wr => ∃ k : Nat, ∃ out : List (List UInt8), ∃ cur : List UInt8, k ≤ L.length ∧ i = .int .i64 k ∧ s = .string ⟨cur.toArray⟩ ∧ wr.ownsRow w.heap.size 9 1 v out.length (strVals out) ∧ Below w.heap.size w wr ∧ out.length ≤ k ∧ cur.length ≤ k ∧ Hid ((L.take k).foldl kwStep ([], []) = (out, cur))) (fun _ _ i _ => L.length - (intOf i).toNat)
  case atStart => exact ⟨0, [], [], by omega, rfl, rfl, World.ownsRow_nil _ _ _ _, Below.refl _ _, by simp, by simp, show _ = _ from rfl⟩
  case round =>
    obtain ⟨k, out, cur, hk, rfl, rfl, hown, hb, ho, hcu, hst⟩ := hrel
    by_cases hlt : k < L.length
    · have hnx : (L.take (k + 1)).foldl kwStep ([], []) = if (L[k]).toNat = 32 then (out ++ [cur], []) else (out, cur ++ [L[k]]) := by
        rw [List.take_succ_eq_append_getElem hlt, List.foldl_append, hst.out]; rfl
      by_cases h32 : (L[k]).toNat = 32
      · rw [if_pos h32] at hnx
        replace hnx := Lib.hid hnx
        have h32b : ((L[k].toNat : Int) == 32) = true := by rw [beq_iff_eq]; omega
        replace h32 := Lib.hid h32
        obtain ⟨hz0, hz1, hz2⟩ := HZ.out
        have hi := HI.out
        go_wp2_with (at_builtin; refine wpList_append_own _ rfl _ _ 41 rfl w.heap.size 9 i0 _ 1 16 Tryz.underlying41 hi hz0 hz1 hz2 rfl (by decide) _ _ _ rfl (hown.alloc _) ⟨wr.heap.size, 0, none⟩ 1 1 [.string ⟨cur.toArray⟩] rfl rfl ?c1 ?c2 ?c3 ?c4 ?c5 ?_)
        case c1 =>
          intro j u hj
          match j, hj with
          | 0, hj => simp at hj; subst hj; simp [Addr.add]
        case c2 => intro u hu; simp at hu; subst hu; rfl
        case c3 => unfold maxLen; omega
        case c4 => omega
        case c5 => have := hb.size; simp; omega
        intro v' w3 hown' hgrow _
        replace hown' := Lib.hid hown'
        have hB3 := Lib.hid ((hb.alloc hb.size (Obj.cells #[.string ⟨cur.toArray⟩] 9)).grown hgrow (by have := hb.size; simp; omega) (fun g hg => (hown.lt g hg).1))
        clear hgrow
        go_wp2_with fail
        go_roundw
        case rel => exact ⟨k + 1, out ++ [cur], [], by omega, by go_num, rfl, by have h := hown'.out; simpa [strVals] using h, hB3.out, by simp; omega, by simp, hnx.out⟩
        case measure => simp [intOf]; omega
      · rw [if_neg h32] at hnx
        replace hnx := Lib.hid hnx
        have h32b : ((L[k].toNat : Int) == 32) = false := by rw [beq_eq_false_iff_ne]; omega
        replace h32 := Lib.hid h32
        have hbs := hb.size
        go_wp2_with fail
        go_roundw
        case rel => exact ⟨k + 1, out, cur ++ [L[k]], by omega, by go_num, by show Value.string ⟨(cur ++ List.take 1 (List.drop k L)).toArray⟩ = _; rw [List.drop_eq_getElem_cons hlt]; rfl, hown, hb, by omega, by simp; omega, hnx.out⟩
        case measure => simp [intOf]; omega
    · have hend := hst.out
      rw [List.take_of_length_le (by omega), hall.out] at hend
      simp only [Prod.mk.injEq] at hend
      have hk1 := Lib.hid hend.1
      clear hend
      go_wp2_with fail
      go_ret
      refine ⟨hb, _, rfl, ?_⟩
      rw [hk1.out]
      exact StrSl.of_owns hown (by rw [← hk1.out]; decide)
theorem mem_drop_step (L : List (List UInt8)) (k : Nat) (h : k < L.length) (s : List UInt8) : decide (s ∈ L.drop k) = (decide (L[k] = s) || decide (s ∈ L.drop (k + 1))) := by
  rw [List.drop_eq_getElem_cons h, Bool.eq_iff_iff]
  simp only [List.mem_cons, decide_eq_true_eq, Bool.or_eq_true]
  constructor
  · rintro (h | h)
    · exact .inl h.symm
    · exact .inr h
  · rintro (h | h)
    · exact .inl h.symm
    · exact .inr h
theorem refReserved_any (s : List UInt8) (w : World) :
    Calls Tryz.prog 18 #[.string ⟨s.toArray⟩] w fun e w' => e = .returned (.bool (reservedB s)) ∧ Below w.heap.size w w' := by
  have hK := Lib.hid (refKeywords_any w)
  have hr : reservedB s = decide (s ∈ kwTexts.drop 0) := rfl
  have h46 : kwTexts.length = 46 := rfl
  replace hr := Lib.hid hr
  replace h46 := Lib.hid h46
  go_enter Tryz.func18, Tryz.ntmps18
  go_wp2_with fail
  (with_reducible refine (hK.out).mono ?_)
  rintro e w1 ⟨hb, v, rfl, b, o, c, rfl, hlt, hc⟩
  have HC := Lib.hid hc
  rw [h46.out]
  clear hc hK
  go_wp2_with fail
  go_loop [4] (fun i => ∃ k : Nat, k ≤ 46 ∧ i = .int .i64 k ∧ Hid (reservedB s = decide (s ∈ kwTexts.drop k))) (fun i => 46 - (intOf i).toNat)
  case atStart => exact ⟨0, by omega, rfl, hr.out⟩
  case round =>
    obtain ⟨k, hk, rfl, hall⟩ := hrel
    by_cases hk1 : k < 46
    · have hk2 : k < kwTexts.length := hk1
      have c0 := HC.out k hk2
      have hstep : decide (s ∈ kwTexts.drop k) = (decide (kwTexts[k] = s) || decide (s ∈ kwTexts.drop (k + 1))) := by
        exact mem_drop_step kwTexts k hk2 s
      replace hk2 := Lib.hid hk2
      generalize kwTexts[k] = x at *
      by_cases hx : x = s
      · have hxb : (x == s) = true := by simp [hx]
        have hres : Hid (reservedB s = true) := show _ = _ by rw [hall.out, hstep, decide_eq_true hx]; rfl
        replace hx := Lib.hid hx
        clear hstep
        go_wp2_with fail
        go_ret
        exact ⟨ret_b hres.out.symm, hb⟩
      · have hxb : (x == s) = false := by simp [hx]
        have hres : Hid (reservedB s = decide (s ∈ kwTexts.drop (k + 1))) := show _ = _ by rw [hall.out, hstep, decide_eq_false hx]; rfl
        replace hx := Lib.hid hx
        clear hstep
        go_wp2_with fail
        go_round
        case rel => exact ⟨k + 1, by omega, by go_num, hres.out⟩
        case measure => simp [intOf]; omega
    · have hres : Hid (reservedB s = false) := show _ = _ by
        rw [hall.out, List.drop_of_length_le (by rw [h46.out]; omega)]; rfl
      go_wp2_with fail
      go_ret
      exact ⟨ret_b hres.out.symm, hb⟩
theorem refName_any (s : List UInt8) (w : World) (hs : s.length ≤ 1000000) :
    Calls Tryz.prog 16 #[.string ⟨s.toArray⟩] w fun e w' => e = .returned (.int .i64 (nameErr s)) ∧ Below w.heap.size w w' := by
  have hf := refText_any 0 s w hs
  have hr := fun W => refReserved_any s W
  replace hr := Lib.hid hr
  cases hfm : formedB 0 s
  · rw [hfm] at hf
    have he : Hid (nameErr s = 8) := show _ = _ by simp [nameErr, hfm]
    replace hf := Lib.hid hf
    clear hfm
    go_enter Tryz.func16, Tryz.ntmps16
    go_wp2_with fail
    (with_reducible refine (hf.out).mono ?_); rintro e w1 ⟨rfl, n1, rfl⟩
    go_wp2_with fail
    go_ret
    exact ⟨by rw [he.out]; rfl, below_drawn (Below.refl _ _) _⟩
  · rw [hfm] at hf
    replace hf := Lib.hid hf
    cases hrs : reservedB s
    · have he : Hid (nameErr s = 0) := show _ = _ by simp [nameErr, hfm, hrs]
      rw [hrs] at hr
      clear hfm hrs
      go_enter Tryz.func16, Tryz.ntmps16
      go_wp2_with fail
      (with_reducible refine (hf.out).mono ?_); rintro e w1 ⟨rfl, hb1⟩
      replace hb1 : Below w.heap.size w w1 := by obtain ⟨n, rfl⟩ := hb1; exact below_drawn (Below.refl _ _) _
      go_wp2_with fail
      (with_reducible refine (hr.out _).mono ?_); rintro e w2 ⟨rfl, hb2⟩
      go_wp2_with fail
      go_ret
      exact ⟨by rw [he.out]; rfl, hb1.trans (hb2.mono hb1.size)⟩
    · have he : Hid (nameErr s = 8) := show _ = _ by simp [nameErr, hfm, hrs]
      rw [hrs] at hr
      clear hfm hrs
      go_enter Tryz.func16, Tryz.ntmps16
      go_wp2_with fail
      (with_reducible refine (hf.out).mono ?_); rintro e w1 ⟨rfl, hb1⟩
      replace hb1 : Below w.heap.size w w1 := by obtain ⟨n, rfl⟩ := hb1; exact below_drawn (Below.refl _ _) _
      go_wp2_with fail
      (with_reducible refine (hr.out _).mono ?_); rintro e w2 ⟨rfl, hb2⟩
      go_wp2_with fail
      go_ret
      exact ⟨by rw [he.out]; rfl, hb1.trans (hb2.mono hb1.size)⟩
theorem sameWords_eq (w : World) (v u : Value) (l : List (List UInt8)) (hl : l.length ≤ 1000000) (hv : StrSl w v l) (hu : StrSl w u l) :
    Calls Tryz.prog 19 #[v, u] w fun e w' => e = .returned (.bool true) ∧ ∃ n, w' = w.drewN n := by
  obtain ⟨b, o, c, rfl, hlt, hc⟩ := hv
  obtain ⟨b', o', c', rfl, hlt', hc'⟩ := hu
  have HC := Lib.hid hc
  have HC' := Lib.hid hc'
  clear hc hc'
  go_enter Tryz.func19, Tryz.ntmps19
  go_wp2_with fail
  go_loopw [5] (fun i wr => (∃ k : Nat, k ≤ l.length ∧ i = .int .i64 k) ∧ ∃ n, wr = w.drewN n) (fun i _ => l.length - (intOf i).toNat)
  case atStart => exact ⟨⟨0, by omega, rfl⟩, 0, rfl⟩
  case round =>
    obtain ⟨⟨k, hk, rfl⟩, n, rfl⟩ := hrel
    by_cases hlt1 : k < l.length
    · have c0 := HC.out k hlt1
      have d0 := HC'.out k hlt1
      generalize l[k] = x at *
      have hx : (x == x) = true := by simp
      go_wp2_with fail
      go_quiet (fail)
      go_wp2_with fail
      go_roundw
      case rel => exact ⟨⟨k + 1, by omega, by go_num⟩, n + nq, by first | rfl | rw [World.drewN_drewN]⟩
      case measure => simp [intOf]; omega
    · go_wp2_with fail
      go_ret
      exact ⟨rfl, n, rfl⟩
end Go.Proofs.YtpgedklpnnhjlaaGreatDoor
