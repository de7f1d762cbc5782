/- Walks: Join of an empty list; Keywords, Reserved, Name. -/
import Derived.Test.YtpgedklpnnhjlaaGreatDoorLexG
set_option maxHeartbeats 2000000
set_option maxRecDepth 100000
namespace Go.Proofs.YtpgedklpnnhjlaaGreatDoor
open Go.RowKit
theorem join_empty (a : Option Addr) (c : Nat) (w : World) :
    Calls Tryz.prog 13 #[.slice a 0 c] w fun e w' => e = .returned (joinVal (join [])) ∧ Below w.heap.size w w' := by
  go_enter Tryz.func13, Tryz.ntmps13
  go_wp2_with fail
  refine wp_loop_rounds 1 ?_
  rw [rounds_succ]
  go_wp2_with fail
  refine wp_loop_rounds 1 ?_
  rw [rounds_succ]
  go_wp2_with fail
  have h1 := Lib.hid (Tryz.Builder_Len w.heap.size w.heap.size (Lib.byteCells []) _ (bld_fresh w))
  have h2 := Lib.hid (Tryz.Builder_String_any w.heap.size w.heap.size [] _ (bld_fresh w) (by simp))
  (with_reducible refine (h1.out).mono ?_); rintro e w1 ⟨rfl, rfl⟩
  go_wp2_with fail
  (with_reducible refine (h2.out).mono ?_); rintro e w2 ⟨rfl, hb2⟩
  go_wp2_with fail
  go_ret2
  exact ⟨rfl, ((Below.refl _ _).alloc (Nat.le_refl _) _).trans hb2⟩
/-- Join, whatever the slice. -/
theorem join_any (v : Value) (ts : List Tok) (w : World) (hv : TokSl w v ts) (hn : ts.length ≤ 65536) (ht : ∀ t ∈ ts, t.text.length ≤ 1000000) (hg : SignsAt w) (hg0 : 0 < w.heap.size) :
    Calls Tryz.prog 13 #[v] w fun e w' => e = .returned (joinVal (join ts)) ∧ Below w.heap.size w w' := by
  rcases hv with ⟨rfl, a, c, rfl⟩ | ⟨b, o, c, rfl, hlt, hc⟩
  · exact join_empty a c w
  · exact join_first ts b o c w hn ht hlt hc hg hg0
/-- The reserved words. -/
def kwTexts : List (List UInt8) := [[67], [68], [69], [75], [97, 100, 118, 101, 114, 115, 97, 114, 121], [97, 108, 108], [97, 108, 108, 111, 119], [97, 108, 119, 97, 121, 115], [97, 110, 100], [97, 116], [99, 97, 108, 109], [99, 111, 117, 110, 116], [99, 114, 97, 115, 104], [100, 101, 99, 105, 100, 101, 100], [101, 118, 101, 110, 116, 117, 97, 108, 108, 121], [101, 118, 101, 114, 121, 111, 110, 101], [102, 97, 117, 108, 116, 121], [102, 111, 114], [102, 111, 114, 109, 117, 108, 97], [103, 105, 118, 101, 110], [103, 114, 97, 112, 104, 115], [104, 101, 97, 114, 100], [104, 101, 97, 114, 115], [105, 110], [105, 110, 112, 117, 116], [105, 110, 112, 117, 116, 115], [110, 101, 120, 116], [110, 111, 116], [111, 109, 105, 116], [111, 114], [111, 117, 116], [111, 117, 116, 112, 117, 116, 115], [112, 97, 114, 116, 105, 116, 105, 111, 110], [112, 114, 111, 98, 108, 101, 109], [112, 114, 111, 99, 101, 115, 115, 101, 115], [114, 101, 99, 101, 105, 118, 101], [114, 111, 117, 110, 100, 115], [115, 101, 110, 100], [115, 110, 97, 112, 115, 104, 111, 116], [115, 111, 109, 101], [116, 97, 115, 107], [116, 104, 101, 110], [116, 114, 117, 101], [117, 110, 100, 101, 114], [117, 110, 116, 105, 108], [119, 104, 101, 114, 101]]
def kwVals : Array Value := (kwTexts.map fun l => Value.string ⟨l.toArray⟩).toArray
def SpaceAt (w : World) : Prop := Lib.TabIs Tryz.prog w "strings.asciiSpace" .u8 Lib.asciiSpaceTab
theorem SpaceAt.below {w w' : World} (h : SpaceAt w) (hb : Below w.heap.size w w') : SpaceAt w' := by
  unfold SpaceAt Lib.TabIs World.var? at *
  rw [show Tryz.prog.globalNamed "strings.asciiSpace" = some 1 from by kernel_rfl] at *
  simp only [Option.bind_some] at *
  have : 1 < w.heap.size := by
    rcases Nat.lt_or_ge 1 w.heap.size with h' | h'
    · exact h'
    · simp [Array.getElem?_eq_none h'] at h
  rw [hb.block _ this]; exact h
def kwSrc : List UInt8 := [67, 32, 68, 32, 69, 32, 75, 32, 97, 100, 118, 101, 114, 115, 97, 114, 121, 32, 97, 108, 108, 32, 97, 108, 108, 111, 119, 32, 97, 108, 119, 97, 121, 115, 32, 97, 110, 100, 32, 97, 116, 32, 99, 97, 108, 109, 32, 99, 111, 117, 110, 116, 32, 99, 114, 97, 115, 104, 32, 100, 101, 99, 105, 100, 101, 100, 32, 101, 118, 101, 110, 116, 117, 97, 108, 108, 121, 32, 101, 118, 101, 114, 121, 111, 110, 101, 32, 102, 97, 117, 108, 116, 121, 32, 102, 111, 114, 32, 102, 111, 114, 109, 117, 108, 97, 32, 103, 105, 118, 101, 110, 32, 103, 114, 97, 112, 104, 115, 32, 104, 101, 97, 114, 100, 32, 104, 101, 97, 114, 115, 32, 105, 110, 32, 105, 110, 112, 117, 116, 32, 105, 110, 112, 117, 116, 115, 32, 110, 101, 120, 116, 32, 110, 111, 116, 32, 111, 109, 105, 116, 32, 111, 114, 32, 111, 117, 116, 32, 111, 117, 116, 112, 117, 116, 115, 32, 112, 97, 114, 116, 105, 116, 105, 111, 110, 32, 112, 114, 111, 98, 108, 101, 109, 32, 112, 114, 111, 99, 101, 115, 115, 101, 115, 32, 114, 101, 99, 101, 105, 118, 101, 32, 114, 111, 117, 110, 100, 115, 32, 115, 101, 110, 100, 32, 115, 110, 97, 112, 115, 104, 111, 116, 32, 115, 111, 109, 101, 32, 116, 97, 115, 107, 32, 116, 104, 101, 110, 32, 116, 114, 117, 101, 32, 117, 110, 100, 101, 114, 32, 117, 110, 116, 105, 108, 32, 119, 104, 101, 114, 101]
theorem kw_fields : Lib.fields kwSrc = kwTexts := by kernel_rfl
theorem kw_ascii : kwSrc.all (fun b => decide (b.toNat < 128)) = true := by decide +kernel
theorem keywords_any (w : World) (hsp : SpaceAt w) :
    Calls Tryz.prog 20 #[] w fun e w' => e = .returned (.slice (some ⟨w.heap.size, 0, none⟩) 46 46) ∧ w' = w.alloc (.cells kwVals 9) := by
  have hF : Hid (Calls Tryz.prog 50 #[.string ⟨kwSrc.toArray⟩] w fun e w' => e = .returned (.slice (some ⟨w.heap.size, 0, none⟩) 46 46) ∧ w' = w.alloc (.cells kwVals 9)) := by
    have h := Tryz.strings_Fields ⟨kwSrc.toArray⟩ w (by rw [ba_size]; decide) (fun j b hj => by
      have := List.all_eq_true.1 kw_ascii b (List.mem_of_getElem? hj)
      simpa using this) hsp
    rw [kw_fields] at h
    exact h
  replace hsp := Lib.hid hsp
  go_enter Tryz.func20, Tryz.ntmps20
  go_wp2_with fail
  refine (hF.out).mono ?_
  rintro e w1 ⟨rfl, rfl⟩
  go_wp2_with fail
  go_ret
  exact ⟨rfl, rfl⟩
def kwBA : List ByteArray := kwTexts.map fun l => ⟨l.toArray⟩
def reservedB (s : List UInt8) : Bool := decide (s ∈ kwTexts)
theorem contains_kw (s : List UInt8) : Lib.containsS (kwBA.take 46) ⟨s.toArray⟩ = reservedB s := by
  rw [Bool.eq_iff_iff, Lib.containsS_iff, reservedB, decide_eq_true_eq]
  have : kwBA.take 46 = kwBA := by kernel_rfl
  rw [this, kwBA, List.mem_map]
  constructor
  · rintro ⟨l, hl, e⟩
    have : l = s := by simpa using e
    rw [← this]; exact hl
  · intro h; exact ⟨s, h, rfl⟩
theorem kw_cells (w : World) : ∀ j, j < kwBA.length → (w.alloc (.cells kwVals 9)).cell? ⟨w.heap.size, 0 + j, none⟩ = some (.string (kwBA.getD j ByteArray.empty)) := by
  intro j hj
  rw [World.cell?, heap_alloc_new, Nat.zero_add]
  have hj' : j < kwTexts.length := by simpa [kwBA] using hj
  simp [kwVals, kwBA, List.getD, hj']
theorem reserved_any (s : List UInt8) (w : World) (hsp : SpaceAt w) :
    Calls Tryz.prog 17 #[.string ⟨s.toArray⟩] w fun e w' => e = .returned (.bool (reservedB s)) ∧ Below w.heap.size w w' := by
  have hK := Lib.hid (keywords_any w hsp)
  have hc := Lib.hid (Tryz.slices_Contains_string w.heap.size 0 46 46 kwBA ⟨s.toArray⟩ (w.alloc (.cells kwVals 9)) (by decide) (by omega) (kw_cells w))
  replace hsp := Lib.hid hsp
  go_enter Tryz.func17, Tryz.ntmps17
  go_wp2_with fail
  (with_reducible refine (hK.out).mono ?_); rintro e w1 ⟨rfl, rfl⟩
  go_wp2_with fail
  (with_reducible refine (hc.out).mono ?_); rintro e w1 ⟨rfl, rfl⟩
  rw [contains_kw]
  go_wp2_with fail
  go_ret
  exact ⟨rfl, (Below.refl _ _).alloc (Nat.le_refl _) _⟩
/-- The error number of a name. -/
def nameErr (s : List UInt8) : Nat := if formedB 0 s = false ∨ reservedB s = true then 8 else 0
theorem name_any (s : List UInt8) (w : World) (hs : s.length ≤ 1000000) (hg : SignsAt w) (hsp : SpaceAt w) :
    Calls Tryz.prog 15 #[.string ⟨s.toArray⟩] w fun e w' => e = .returned (.int .i64 (nameErr s)) ∧ Below w.heap.size w w' := by
  have hf := formed_any 0 s w hs hg
  have hr := fun w' (hb : Below w.heap.size w w') => reserved_any s w' (hsp.below hb)
  replace hg := Lib.hid hg
  replace hsp := Lib.hid hsp
  replace hr := Lib.hid hr
  cases hfm : formedB 0 s
  · rw [hfm] at hf
    have he : Hid (nameErr s = 8) := show _ = _ by simp [nameErr, hfm]
    replace hf := Lib.hid hf
    clear hfm
    go_enter Tryz.func15, Tryz.ntmps15
    go_wp2_with fail
    (with_reducible refine (hf.out).mono ?_); rintro e w1 ⟨rfl, hb1⟩
    go_wp2_with fail
    go_ret
    exact ⟨by rw [he.out]; rfl, hb1⟩
  · rw [hfm] at hf
    replace hf := Lib.hid hf
    cases hrs : reservedB s
    · have he : Hid (nameErr s = 0) := show _ = _ by simp [nameErr, hfm, hrs]
      rw [hrs] at hr
      clear hfm hrs
      go_enter Tryz.func15, Tryz.ntmps15
      go_wp2_with fail
      (with_reducible refine (hf.out).mono ?_); rintro e w1 ⟨rfl, hb1⟩
      go_wp2_with fail
      (with_reducible refine (hr.out _ hb1).mono ?_); rintro e w2 ⟨rfl, hb2⟩
      go_wp2_with fail
      go_ret
      exact ⟨by rw [he.out]; rfl, hb1.trans (hb2.mono hb1.size)⟩
    · have he : Hid (nameErr s = 8) := show _ = _ by simp [nameErr, hfm, hrs]
      rw [hrs] at hr
      clear hfm hrs
      go_enter Tryz.func15, Tryz.ntmps15
      go_wp2_with fail
      (with_reducible refine (hf.out).mono ?_); rintro e w1 ⟨rfl, hb1⟩
      go_wp2_with fail
      (with_reducible refine (hr.out _ hb1).mono ?_); rintro e w2 ⟨rfl, hb2⟩
      go_wp2_with fail
      go_ret
      exact ⟨by rw [he.out]; rfl, hb1.trans (hb2.mono hb1.size)⟩
end Go.Proofs.YtpgedklpnnhjlaaGreatDoor
