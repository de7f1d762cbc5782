/- Walks: place, Position of package lexer. -/
import Derived.Test.YtpgedklpnnhjlaaGreatDoorLexD
import Derived.Test.YtpgedklpnnhjlaaGreatDoorPos
set_option maxHeartbeats 1000000
set_option maxRecDepth 100000
namespace Go.Proofs.YtpgedklpnnhjlaaGreatDoor
open Go.RowKit
theorem place_any (s : List UInt8) (a : Int) (w : World) (hs : s.length ≤ 1000000000) :
    Calls Tryz.prog 51 #[.string ⟨s.toArray⟩, .int .i64 a] w fun e w' => e = .returned (.int .i64 (placeErr s a)) ∧ w = w' := by
  by_cases h1 : 65536 < s.length
  · have hr : Hid (placeErr s a = 13) := show _ = _ by rw [placeErr, if_pos h1]
    go_enter Tryz.func51, Tryz.ntmps51
    go_wp2_with fail
    go_ret
    exact ⟨ret_i (by rw [hr.out]; rfl), rfl⟩
  · by_cases h2 : a < 0 ∨ (s.length : Int) < a
    · have hr : Hid (placeErr s a = 2) := show _ = _ by rw [placeErr, if_neg h1, if_pos h2]
      rcases h2 with h2 | h2
      all_goals
        go_enter Tryz.func51, Tryz.ntmps51
        go_wp2_with fail
        go_ret
        exact ⟨ret_i (by rw [hr.out]; rfl), rfl⟩
    · have hr : Hid (placeErr s a = 0) := show _ = _ by rw [placeErr, if_neg h1, if_neg h2]
      have h3 : 0 ≤ a := by omega
      have h4 : a ≤ (s.length : Int) := by omega
      clear h2
      go_enter Tryz.func51, Tryz.ntmps51
      go_wp2_with fail
      go_ret
      exact ⟨ret_i (by rw [hr.out]; rfl), rfl⟩
def posVal (s : List UInt8) (a : Int) : Value :=
  if placeErr s a = 0 then .tuple #[.int .i64 (lineOf (s.take a.toNat)), .int .i64 (colOf (s.take a.toNat)), .int .i64 0]
  else .tuple #[.int .i64 0, .int .i64 0, .int .i64 (placeErr s a)]
theorem position_any (s : List UInt8) (a : Int) (w : World) (hs : s.length ≤ 1000000) :
    Calls Tryz.prog 22 #[.string ⟨s.toArray⟩, .int .i64 a] w fun e w' => e = .returned (posVal s a) ∧ ∃ n, w' = w.drewN n := by
  have hpl := Lib.hid (place_any s a w (by omega))
  by_cases h0 : placeErr s a = 0
  · have hp : 0 ≤ a ∧ a ≤ (s.length : Int) := by
      unfold placeErr at h0; (repeat' split at h0) <;> omega
    obtain ⟨hp0, hp1⟩ := hp
    obtain ⟨p, rfl⟩ := Int.eq_ofNat_of_zero_le hp0
    have hr : Hid (posVal s p = .tuple #[.int .i64 (lineOf (s.take p)), .int .i64 (colOf (s.take p)), .int .i64 0]) := show _ = _ by rw [posVal, if_pos h0]; rfl
    rw [h0] at hpl
    have hple : p ≤ s.length := by omega
    have hlen : (s.take p).length = p := by rw [List.length_take]; omega
    have hC := Lib.hid (fun W => Tryz.strings_Count_one ⟨(s.take p).toArray⟩ 10 W)
    have hL := fun W => Tryz.strings_LastIndexByte ⟨(s.take p).toArray⟩ 10 (by rw [ba_size]; omega) W
    rw [lastLf, hlen] at hL
    have hcl := colOf_le (s.take p)
    have hcnt : (s.take p).count 10 ≤ p := by have := List.count_le_length (a := (10 : UInt8)) (l := s.take p); omega
    have hlo : lineOf (s.take p) = 1 + (s.take p).count 10 := rfl
    have hC : Hid (∀ W, Calls Tryz.prog 28 #[.string ⟨(s.take p).toArray⟩, .string ⟨#[10]⟩] W fun e w' => e = .returned (.int .i64 ((s.take p).count 10 : Nat)) ∧ w' = W) := hC
    rw [hlen] at hcl
    rw [hlo] at hr
    clear hlo h0 hp0 hp1
    replace hlen := Lib.hid hlen
    generalize colOf (s.take p) = cl at *
    generalize (s.take p).count 10 = ct at *
    replace hL := Lib.hid hL
    have w1 : IntKind.i64.wrap (1 + (ct : Int)) = 1 + (ct : Int) := IntWalk.i64_in _ (by omega)
    have w2 : IntKind.i64.wrap ((p : Int) - ((p : Int) - cl)) = (p : Int) - ((p : Int) - cl) := IntWalk.i64_in _ (by omega)
    go_enter Tryz.func22, Tryz.ntmps22
    go_wp2_with fail
    (with_reducible refine (hpl.out).mono ?_); rintro e w1 ⟨rfl, rfl⟩
    go_wp2_with fail
    go_quiet ((first | (go_at_call 28; exact Calls.quiet_of_same (hC.out _)) | (go_at_call 52; exact Calls.quiet_of_same (hL.out _))))
    go_wp2_with fail
    go_ret3
    have e1 : ((1 + ct : Nat) : Int) = 1 + (ct : Int) := by omega
    have e2 : (p : Int) - ((p : Int) - cl) = cl := by omega
    refine ⟨?_, nq, rfl⟩
    show Ending.returned (.tuple #[.int .i64 (1 + (ct : Int)), .int .i64 ((p : Int) - ((p : Int) - cl)), .int .i64 0]) = _
    rw [e2, hr.out, e1]
  · have hr : Hid (posVal s a = .tuple #[.int .i64 0, .int .i64 0, .int .i64 (placeErr s a)]) := show _ = _ by rw [posVal, if_neg h0]
    have hb : ((placeErr s a : Int) != 0) = true := by rw [bne_iff_ne]; omega
    clear h0
    generalize placeErr s a = er at *
    go_enter Tryz.func22, Tryz.ntmps22
    go_wp2_with fail
    (with_reducible refine (hpl.out).mono ?_); rintro e w1 ⟨rfl, rfl⟩
    go_wp2_with fail
    go_ret3
    exact ⟨by rw [hr.out]; rfl, 0, rfl⟩
/-- The place at which a line begins. -/
def fromOf (s : List UInt8) (p : Nat) : Nat := p + 1 - colOf (s.take p)
def restLine (l : List UInt8) : List UInt8 := l.take (runLen notLf l)
/-- The mark below a line. -/
def markOf (l : List UInt8) : List UInt8 := l.map fun c => if c.toNat = 9 then 9 else 32
def excText (s : List UInt8) (p : Nat) : List UInt8 :=
  restLine (s.drop (fromOf s p)) ++ [10] ++ markOf ((s.drop (fromOf s p)).take (p - fromOf s p)) ++ [94]
def excVal (s : List UInt8) (a : Int) : Value :=
  if placeErr s a = 0 then .tuple #[.string ⟨(excText s a.toNat).toArray⟩, .int .i64 0]
  else .tuple #[.string ⟨#[]⟩, .int .i64 (placeErr s a)]
def MaxLenAt (w : World) : Prop := ∃ m, w.cell? ⟨2, 0, none⟩ = some (.int .i64 m)
theorem index_lf (l : List UInt8) : Lib.index l [10] = if runLen notLf l < l.length then (runLen notLf l : Int) else -1 := by
  rw [Lib.index_one]
  induction l with
  | nil => simp [Lib.indexByte, runLen]
  | cons c r ih =>
    by_cases h : c.toNat = 10
    · have hc : c = 10 := UInt8.toNat_inj.1 h
      subst hc
      simp [Lib.indexByte, runLen, notLf]
    · have h1 : notLf c.toNat = true := by simp [notLf]; omega
      have hc : (c == (10 : UInt8)) = false := by
        rw [beq_eq_false_iff_ne]; intro e; exact h (by rw [e]; rfl)
      have hle := runLen_le notLf r
      simp only [runLen, h1, if_true, List.length_cons]
      unfold Lib.indexByte
      rw [ih]
      simp only [hc, Bool.false_eq_true, if_false]
      by_cases hlt : runLen notLf r < r.length
      · rw [if_pos hlt, if_neg (by simp only [beq_iff_eq]; omega), if_pos (by omega)]; simp
      · rw [if_neg hlt, if_pos (by rfl), if_neg (by omega)]
theorem cut_lf (l : List UInt8) : (Lib.cut l [10]).1 = restLine l := by
  unfold Lib.cut restLine
  rw [index_lf]
  have hle := runLen_le notLf l
  by_cases h : runLen notLf l < l.length
  · rw [if_pos h, if_pos (by omega)]; simp
  · rw [if_neg h, if_neg (by omega)]
    simp only
    rw [List.take_of_length_le (by omega)]
/-- A block of bytes of the call's own. -/
def BytesAt (w : World) (b : Nat) (l : List UInt8) : Prop := ∃ cs fr, w.heap[b]? = some (.cells cs 5 fr) ∧ l.length ≤ cs.size ∧ cs.toList.take l.length = Lib.byteCells l ∧ l.length ≤ fr.1
theorem bytes_made (w : World) (l : List UInt8) : BytesAt (Lib.bytesWorld w 5 ⟨l.toArray⟩) w.heap.size l := by
  have hsz : (ByteArray.mk l.toArray).size = l.length := ba_size l
  have hc : (Lib.bytesCells w 5 ⟨l.toArray⟩).toList.take l.length = Lib.byteCells l := by
    simp [Lib.bytesCells, Lib.byteCells]
  have hle : l.length ≤ (Lib.bytesCells w 5 ⟨l.toArray⟩).size := by simp [Lib.bytesCells]
  exact ⟨_, _, Lib.bytesWorld_at_new w 5 ⟨l.toArray⟩, hle, hc, hle⟩
theorem BytesAt.cell {w : World} {b : Nat} {l : List UInt8} (h : BytesAt w b l) (k : Nat) (hk : k < l.length) : w.cell? ⟨b, k, none⟩ = some (.int .u8 l[k].toNat) ∧ w.frozen? ⟨b, k, none⟩ = false := by
  obtain ⟨cs, fr, hh, hle, ht, hf⟩ := h
  constructor
  · have : cs.toList[k]? = some (.int .u8 l[k].toNat) := by
      have e : (cs.toList.take l.length)[k]? = cs.toList[k]? := by rw [List.getElem?_take, if_pos hk]
      rw [← e, ht]; simp [Lib.byteCells, hk]
    simp only [World.cell?, hh]; simpa using this
  · obtain ⟨lo, hi⟩ := fr
    simp only [World.frozen?, hh]
    simp only at hf
    rw [Bool.and_eq_false_iff]; left; simp; omega
theorem BytesAt.set {w : World} {b : Nat} {l : List UInt8} (h : BytesAt w b l) (k : Nat) (hk : k < l.length) (v : UInt8) : BytesAt (w.setCell ⟨b, k, none⟩ (.int .u8 v.toNat)) b (l.set k v) := by
  have hk := hk
  obtain ⟨cs, fr, hh, hle, ht, hf⟩ := h
  refine ⟨cs.setIfInBounds k (.int .u8 v.toNat), fr, ?_, by simpa using hle, ?_, by simpa using hf⟩
  · simp [World.setCell, Array.getElem?_modify, hh]
  · have : (Lib.byteCells l).set k (.int .u8 v.toNat) = Lib.byteCells (l.set k v) := by simp [Lib.byteCells, List.map_set]
    rw [← this, ← ht, List.length_set, Array.toList_setIfInBounds, List.take_set]
theorem foldl_bytes (l : List UInt8) : ∀ (a : List UInt8), (l.map fun c => (c.toNat : Int)).foldl (fun r n => r.push (UInt8.ofNat n.toNat)) (ByteArray.mk a.toArray) = ByteArray.mk (a ++ l).toArray := by
  induction l with
  | nil => intro a; simp
  | cons c r ih =>
    intro a
    have e : (ByteArray.mk a.toArray).push (UInt8.ofNat (c.toNat : Int).toNat) = ByteArray.mk (a ++ [c]).toArray := by
      apply ByteArray.ext; simp [ByteArray.push]
    rw [List.map_cons, List.foldl_cons, e, ih, List.append_assoc]; rfl
theorem bytes_string {w : World} {b : Nat} {l : List UInt8} (h : BytesAt w b l) (n c : Nat) (hn : l.length = n) : (convert 72 9 (.slice (some ⟨b, 0, none⟩) n c)).run Tryz.prog w = .ok (.string ⟨l.toArray⟩) w := by
  have ha : ∀ j, (⟨b, 0, none⟩ : Addr).add j = ⟨b, j, none⟩ := fun j => by unfold Addr.add; split <;> simp_all
  have hl : (Lib.byteCells l).length = n := by simp [Lib.byteCells, hn]
  have hld := run_loadCells_list (P := Tryz.prog) w ⟨b, 0, none⟩ (Lib.byteCells l) (fun j v hv => by
    rw [ha]
    have hj : j < l.length := by have := (List.getElem?_eq_some_iff.1 hv).1; simpa [Lib.byteCells] using this
    rw [(h.cell j hj).1]
    rw [← hv]; simp [Lib.byteCells, hj])
  rw [hl] at hld
  rw [run_convert_bytes_string w 72 9 5 _ _ _ Tryz.underlying72 Tryz.underlying5 Tryz.underlying9]
  rw [run_bytesToString w ⟨b, 0, none⟩ n c (l.map fun x => (x.toNat : Int)) (by rw [hld]; simp [Lib.byteCells])]
  have := foldl_bytes l []
  simp only [List.nil_append] at this
  rw [show (ByteArray.empty : ByteArray) = ByteArray.mk ([] : List UInt8).toArray from rfl, this]
theorem mark_len (l : List UInt8) (k : Nat) : (markOf (l.take k) ++ l.drop k).length = l.length := by
  simp [markOf]; omega
theorem mark_at {l : List UInt8} {k : Nat} (h : k < l.length) : (markOf (l.take k) ++ l.drop k)[k]'(by rw [mark_len]; exact h) = l[k] := by
  rw [List.getElem_append_right (by simp [markOf]; omega)]
  simp [markOf, Nat.min_eq_left (Nat.le_of_lt h)]
theorem mark_keep {l : List UInt8} {k : Nat} (h : k < l.length) (h9 : l[k].toNat = 9) : markOf (l.take (k + 1)) ++ l.drop (k + 1) = markOf (l.take k) ++ l.drop k := by
  rw [List.take_succ_eq_append_getElem h, markOf, List.map_append, List.drop_eq_getElem_cons h]
  have : l[k] = 9 := UInt8.toNat_inj.1 h9
  simp [markOf, this]
theorem mark_set {l : List UInt8} {k : Nat} (h : k < l.length) (h9 : ¬ l[k].toNat = 9) : markOf (l.take (k + 1)) ++ l.drop (k + 1) = (markOf (l.take k) ++ l.drop k).set k 32 := by
  have e : (List.drop k l).set 0 32 = 32 :: List.drop (k + 1) l := by rw [List.drop_eq_getElem_cons h]; rfl
  have hk : (markOf (l.take k)).length = k := by simp [markOf]; omega
  rw [List.set_append_right _ _ (by rw [hk]; exact Nat.le_refl _), hk, Nat.sub_self, e, List.take_succ_eq_append_getElem h]
  have e2 : markOf (l.take k ++ [l[k]]) = markOf (l.take k) ++ [32] := by
    rw [markOf, List.map_append]; simp only [List.map_cons, List.map_nil, h9, if_false]; rfl
  rw [e2, List.append_assoc]; rfl
theorem excerpt_any (s : List UInt8) (a : Int) (w : World) (hs : s.length ≤ 1000000) (hm : MaxLenAt w) :
    Calls Tryz.prog 26 #[.string ⟨s.toArray⟩, .int .i64 a] w fun e w' => e = .returned (excVal s a) ∧ Below w.heap.size w w' := by
  have hpl := Lib.hid (place_any s a w (by omega))
  by_cases h0 : placeErr s a = 0
  · have hp : 0 ≤ a ∧ a ≤ (s.length : Int) := by
      unfold placeErr at h0; (repeat' split at h0) <;> omega
    obtain ⟨hp0, hp1⟩ := hp
    obtain ⟨p, rfl⟩ := Int.eq_ofNat_of_zero_le hp0
    have hr : Hid (excVal s p = .tuple #[.string ⟨(excText s p).toArray⟩, .int .i64 0]) := show _ = _ by rw [excVal, if_pos h0]; rfl
    rw [h0] at hpl
    have hple : p ≤ s.length := by omega
    have hlen : (s.take p).length = p := by rw [List.length_take]; omega
    have hcl := colOf_le (s.take p)
    rw [hlen] at hcl
    have hc1 : 1 ≤ colOf (s.take p) := by unfold colOf; omega
    have hL := fun W => Tryz.strings_LastIndexByte ⟨(s.take p).toArray⟩ 10 (by rw [ba_size]; omega) W
    rw [lastLf, hlen, show (p : Int) - colOf (s.take p) = (fromOf s p : Int) - 1 by unfold fromOf; omega] at hL
    have hfp : fromOf s p ≤ p := by unfold fromOf; omega
    obtain ⟨m, hm⟩ := hm
    have hCut := fun W (h : W.cell? ⟨2, 0, none⟩ = some (.int .i64 m)) => Tryz.strings_Cut ⟨(s.drop (fromOf s p)).toArray⟩ ⟨#[10]⟩ m W (by rw [ba_size, List.length_drop]; omega) h
    have hx : excText s p = restLine (s.drop (fromOf s p)) ++ [10] ++ markOf ((s.drop (fromOf s p)).take (p - fromOf s p)) ++ [94] := rfl
    rw [hx] at hr
    clear hx h0 hp0 hp1 hc1 hcl hlen
    generalize fromOf s p = F at *
    have hcut : ∀ sep : List UInt8, sep = [10] → (Lib.cut (s.drop F) sep).1 = restLine (s.drop F) := fun sep e => by rw [e]; exact cut_lf _
    replace hL := Lib.hid hL
    replace hCut := Lib.hid hCut
    replace hcut := Lib.hid hcut
    go_enter Tryz.func26, Tryz.ntmps26
    go_wp2_with fail
    (with_reducible refine (hpl.out).mono ?_); rintro e w1 ⟨rfl, rfl⟩
    go_wp2_with fail
    (with_reducible refine (hL.out _).mono ?_); rintro e w1 ⟨rfl, rfl⟩
    go_wp2_with fail
    (with_reducible refine (hCut.out _ hm).mono ?_); rintro e w1 ⟨rfl, nd, rfl⟩
    rw [show (Lib.cut (ByteArray.mk (s.drop F).toArray).data.toList (ByteArray.mk #[10]).data.toList).1 = restLine (s.drop F) from hcut.out _ rfl]
    have hml : (List.take (p - F) (List.drop F s)).length = p - F := by rw [List.length_take, List.length_drop]; omega
    generalize hmk : List.take (p - F) (List.drop F s) = mk at *
    have kc := fun (W : World) => Lib.run_convert_string_bytes (P := Tryz.prog) W 9 72 5 ⟨mk.toArray⟩ Tryz.underlying9 Tryz.underlying72 Tryz.underlying5
    have hbw := bytes_made (w1.drewN nd) mk
    have hBw : Below w1.heap.size w1 (Lib.bytesWorld (w1.drewN nd) 5 ⟨mk.toArray⟩) := (show Below w1.heap.size w1 (w1.drewN nd) from (Below.refl _ _).trans ⟨rfl, rfl, rfl, Nat.le_refl _, fun _ _ => rfl⟩).trans (below_bytes (w1.drewN nd) 5 ⟨mk.toArray⟩)
    replace hml := Lib.hid hml
    have hmle : mk.length ≤ 1000000 := by rw [hml.out]; omega
    replace hbw : BytesAt (Lib.bytesWorld (w1.drewN nd) 5 ⟨mk.toArray⟩) w1.heap.size mk := hbw
    replace hbw := Lib.hid hbw
    replace hBw := Lib.hid hBw
    go_wp2_with fail
    go_loopw [40] (fun i wr => ∃ k : Nat, k ≤ mk.length ∧ i = .int .i64 k ∧ BytesAt wr w1.heap.size (markOf (mk.take k) ++ mk.drop k) ∧ Below w1.heap.size w1 wr) (fun i _ => mk.length - (intOf i).toNat)
    case atStart => exact ⟨0, by omega, rfl, by simpa [markOf] using hbw.out, hBw.out⟩
    case round =>
      obtain ⟨k, hk, rfl, hba, hbl⟩ := hrel
      by_cases hlt : k < mk.length
      · obtain ⟨hc, hf⟩ := hba.cell k (by rw [mark_len]; exact hlt)
        rw [mark_at hlt] at hc
        by_cases h9 : mk[k].toNat = 9
        · have hb9 : ((mk[k].toNat : Int) != 9) = false := by simp [h9]
          have hst := Lib.hid (mark_keep hlt h9)
          clear h9
          go_wp2_with fail
          go_roundw
          case rel => exact ⟨k + 1, by omega, by go_num, by rw [hst.out]; exact hba, hbl⟩
          case measure => simp [intOf]; omega
        · have hb9 : ((mk[k].toNat : Int) != 9) = true := by rw [bne_iff_ne]; omega
          have hst := Lib.hid (mark_set hlt h9)
          have hset := Lib.hid (hba.set k (by rw [mark_len]; exact hlt) 32)
          clear h9
          go_wp2_with fail
          go_roundw
          case rel => exact ⟨k + 1, by omega, by go_num, by rw [hst.out]; exact hset.out, hbl.setCell (p := ⟨w1.heap.size, k, none⟩) (Nat.le_refl _) _⟩
          case measure => simp [intOf]; omega
      · have hkl : k = mk.length := by omega
        have hbe : BytesAt wr w1.heap.size (markOf mk) := by
          rw [hkl, List.take_of_length_le (Nat.le_refl _), List.drop_of_length_le (Nat.le_refl _), List.append_nil] at hba
          exact hba
        have kd := fun c => bytes_string hbe mk.length c (by simp [markOf])
        replace hkl := Lib.hid hkl
        replace hba := Lib.hid hba
        replace hbe := Lib.hid hbe
        have hrl : (restLine (List.drop F s)).length ≤ 1000000 := by unfold restLine; rw [List.length_take, List.length_drop]; omega
        have hml2 : (markOf mk).length ≤ 1000000 := by simp only [markOf, List.length_map]; exact hmle
        replace hr : Hid (excVal s p = .tuple #[.string ⟨(restLine (List.drop F s) ++ 10 :: (markOf mk ++ [94])).toArray⟩, .int .i64 0]) := show _ = _ by rw [hr.out]; simp
        go_wp2_with fail
        go_ret2
        exact ⟨by rw [hr.out]; rfl, hbl⟩
  · have hr : Hid (excVal s a = .tuple #[.string ⟨#[]⟩, .int .i64 (placeErr s a)]) := show _ = _ by rw [excVal, if_neg h0]
    have hb : ((placeErr s a : Int) != 0) = true := by rw [bne_iff_ne]; omega
    clear h0
    generalize placeErr s a = er at *
    go_enter Tryz.func26, Tryz.ntmps26
    go_wp2_with fail
    (with_reducible refine (hpl.out).mono ?_); rintro e w1 ⟨rfl, rfl⟩
    go_wp2_with fail
    go_ret2
    exact ⟨by rw [hr.out]; rfl, Below.refl _ _⟩
end Go.Proofs.YtpgedklpnnhjlaaGreatDoor
