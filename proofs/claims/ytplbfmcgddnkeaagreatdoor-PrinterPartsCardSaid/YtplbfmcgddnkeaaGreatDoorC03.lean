/- Walks of functions, and plain facts. -/
import Derived.Deep.RegionHeld2
import Derived.Test.YtplbfmcgddnkeaaGreatDoorC02
import Derived.Test.YtplbfmcgddnkeaaGreatDoorC01
set_option linter.unusedVariables false
set_option linter.unusedSimpArgs false
set_option maxHeartbeats 20000000
set_option maxRecDepth 100000
namespace Go.Proofs.YtplbfmcgddnkeaaGreatDoor
open Go.RowKit
theorem bcell {W w1 : World} (hb : Below W.heap.size W w1) : (∀ b o, b < W.heap.size → w1.cell? ⟨b, o, none⟩ = W.cell? ⟨b, o, none⟩) ∧ (∀ b o, b < W.heap.size → w1.frozen? ⟨b, o, none⟩ = W.frozen? ⟨b, o, none⟩) :=
 ⟨fun b o h => hb.cell (p := ⟨b, o, none⟩) h, fun b o h => hb.frozen (p := ⟨b, o, none⟩) h⟩
theorem Q51 {B : Nat} {a w : World} (h : Below B a w) (n : Nat) : Below B a (w.drewN n) := h.trans ⟨rfl, rfl, rfl, Nat.le_refl _, fun _ _ => rfl⟩
theorem Qgk : (Tryz.prog.info? 45).map (fun i => (i.zero, i.size, i.bytes)) = some (some (.agg #[.int .i64 0, .string ByteArray.empty, .int .i64 0]), 3, 32) := by kernel_rfl
def Q21 : List Tok → List Value
 | [] => []
 | t :: r => .int .i64 t.kind :: .string ⟨t.text.toArray⟩ :: .int .i64 t.pos :: Q21 r
theorem Q7q (a b : List Tok) : Q21 (a ++ b) = Q21 a ++ Q21 b := by
 induction a with
 | nil => rfl
 | cons t r ih => simp [Q21, ih]
theorem Q0q.below {w w' : World} {B : Nat} (h : Q0q w) (hb : Below B w w') (hB : 0 < B) : Q0q w' := by
 obtain ⟨t, fr, h⟩ := h
 exact ⟨t, fr, by rw [hb.block _ hB]; exact h⟩
def Qgx (w : World) (r : Except (Nat × Nat) (List Tok)) (e : Ending) (w' : World) : Prop :=
 Below w.heap.size w w' ∧ match r with
 | .error (d, x) => e = .returned (.tuple #[.slice none 0 0, .int .i64 d, .int .i64 x])
 | .ok ts => ∃ v, e = .returned (.tuple #[v, .int .i64 0, .int .i64 0]) ∧ w'.ownsRow w.heap.size 45 3 v ts.length (Q21 ts)
theorem news3 (w : World) (a b c : Value) (T : TypeId) : ∀ j u, [a, b, c][j]? = some u → (w.alloc (.cells #[a, b, c] T)).cell? ((⟨w.heap.size, 0, none⟩ : Addr).add j) = some u := by
 intro j u h
 have : (⟨w.heap.size, 0, none⟩ : Addr).add j = ⟨w.heap.size, j, none⟩ := by unfold Addr.add; split <;> simp_all
 rw [this, World.cell?, heap_alloc_new]
 simpa using h
theorem one3 (k p : Int) (s : ByteArray) : ∀ u ∈ [Value.int .i64 k, .string s, .int .i64 p], u.oneCell' = true := by
 intro u h
 simp at h
 rcases h with rfl | rfl | rfl <;> rfl
theorem Qse {w w' : World} {B e size n : Nat} {v : Value} {xs : List Value} (h : w.ownsRow B e size v n xs) (hb : Below w.heap.size w w') : w'.ownsRow B e size v n xs :=
 h.kept (row := none) ⟨hb.os, hb.tape, hb.output, hb.size, fun k hk _ => hb.block k hk⟩ (by cases hv : v.ownBlock <;> simp)
theorem Qj3 {w : World} {B e size n b o : Nat} {v : Value} {xs : List Value} (h : w.ownsRow B e size v n xs) (hne : v.ownBlock ≠ some b) (x : Value) : (w.setCell ⟨b, o, none⟩ x).ownsRow B e size v n xs :=
 h.kept (row := some b) ⟨rfl, rfl, rfl, by simp [World.setCell], fun k _ hk => Below.heap_setCell _ _ _ _ (fun e => hk (by simp [e]))⟩ (Or.inr hne)
theorem Qnc (l : List UInt8) (h : l ≠ []) (w : World) (hl : l.length ≤ 1000000000) :
  Calls Tryz.prog 41 #[.string ⟨l.toArray⟩] w fun e w' => e = .returned (Q3r l) ∧ Below w.heap.size w w' := by
 match l, h with
 | c :: r, _ => exact Qds c r w hl
theorem Qen (s : List UInt8) (w : World) (hs : s.length ≤ 1000000) (hg : Q0q w) (hg0 : 0 < w.heap.size) :
  Calls Tryz.prog 23 #[.string ⟨s.toArray⟩] w (Qgx w (scan s)) := by
 by_cases hlong : 65536 < s.length
 ·have hr : Hid (scan s = .error (0, 13)) := show _ = _ by rw [scan, if_pos hlong]
  go_enter Tryz.func23, Tryz.ntmps23
  go_wp2_with fail
  go_ret3
  rw [hr.out]
  exact ⟨Below.refl _ _, rfl⟩
 ·have hle : s.length ≤ 65536 := by omega
  have hr := qh (Qbm hle)
  obtain ⟨i0, hi, hz0, hz1, hz2⟩ := info_parts Qgk
  have HG := qh hg
  have HI := qh hi
  have HZ := qh (And.intro hz0 (And.intro hz1 hz2))
  clear hg hi hz0 hz1 hz2 hlong
  have hsk := Q3m false s
  go_enter Tryz.func23, Tryz.ntmps23
  go_wp2_with fail
  (with_reducible refine (Qaa _ _ (by omega)).mono ?_); rintro e w' ⟨rfl, rfl⟩
  go_wp2_with fail
  obtain ⟨w0, hw0⟩ : ∃ w0 : World, w0 = w' := ⟨_, rfl⟩
  replace hw0 := qh hw0
  go_loopw [5, 6] (fun v i wr => ∃ k : Nat, ∃ ts : List Tok, k ≤ s.length ∧ i = .int .i64 k ∧ wr.ownsRow w'.heap.size 45 3 v ts.length (Q21 ts) ∧ ts.length ≤ k ∧ Below w'.heap.size w' wr ∧ Q0q wr ∧ Hid (skip false (s.drop k) = 0 ∧ Q12 0 s = app ts (Q12 k (s.drop k)))) (fun _ i _ => s.length - (intOf i).toNat)
  case atStart => exact ⟨skip false s, [], hsk, rfl, World.ownsRow_nil _ _ _ _, by simp, Below.refl _ _, HG.out, Q6g s false, by rw [Qhg, Q4r]; simp⟩
  case round =>
   obtain ⟨k, ts, hk, rfl, hown, hts, hb, hsg, hall⟩ := hrel
   by_cases hlt : k < s.length
   ·by_cases hw : Q1 Q5 (s.drop k) = 0
    ·have htok := qh (Q85 hw)
     have hm := qh (show (s.drop k).length ≤ maxLen by simp [maxLen]; omega)
     have hrun := fun W => Qaq (s.drop k) hm.out W
     rw [hw] at hrun
     replace hrun := qh hrun
     have hne' : Hid (s.drop k ≠ []) := by intro e; have := congrArg List.length e; simp at this; omega
     have hsl := Q6r (s.drop k)
     have hfp := Q5y (s.drop k)
     have hsd := qh (fun W => Qju (s.drop k) W hm.out)
     have hlen : (Q11 Qv (s.drop k)).length = Q0d (s.drop k) := by rw [hfp, List.length_take]; omega
     have hfl : Hid (Q11 Qv (s.drop k) = (s.drop k).take (Q11 Qv (s.drop k)).length) := show _ = _ by rw [hlen]; exact hfp
     have hkn : k + (Q11 Qv (s.drop k)).length ≤ s.length := by simp only [List.length_drop] at hsl; omega
     clear hw hfp hsl hlen
     have hsg2 : ∀ o, Q0q (wr.alloc o) := fun o => hsg.below ((Below.refl _ _).alloc (Nat.le_refl _) o) (by have := hb.size; omega)
     generalize Q11 Qv (s.drop k) = sg at *
     cases sg with
     | nil =>
      have hto : Hid (scan s = .error (k, 4)) := show _ = _ by
       have h1 := htok.out
       simp only [if_true] at h1
       rw [hr.out, hall.out.2, Qax hall.out.1 hne'.out h1]; rfl
      replace hsg2 := qh hsg2
      go_wp2_with fail
      (with_reducible refine (hrun.out _).mono ?_); rintro e w1 ⟨rfl, rfl⟩
      go_wp2_with fail
      (with_reducible refine (hsd.out _ (hsg2.out _)).mono ?_); rintro e w1 ⟨rfl, rfl⟩
      go_wp2_with fail
      go_ret3
      rw [hto.out]
      exact ⟨hb.alloc hb.size _, rfl⟩
     | cons c0 r0 =>
      replace hsg2 := qh hsg2
      have hlp : 0 < (c0 :: r0).length := by simp
      generalize hn : (c0 :: r0).length = n at *
      have hlen : Hid ((c0 :: r0).length = n) := hn
      replace hn := qh hn
      have hto : Hid (scan s = app (ts ++ [⟨2, c0 :: r0, k⟩]) (Q12 (k + n) (s.drop (k + n)))) := show _ = _ by
       have h1 := htok.out
       rw [if_neg (by simp)] at h1
       rw [hr.out, hall.out.2, Q8s hall.out.1 hne'.out h1, Qbu, List.drop_drop, ← hfl.out]; rfl
      obtain ⟨hz0, hz1, hz2⟩ := HZ.out
      have hi := HI.out
      go_wp2_with fail
      (with_reducible refine (hrun.out _).mono ?_); rintro e w1 ⟨rfl, rfl⟩
      go_wp2_with fail
      (with_reducible refine (hsd.out _ (hsg2.out _)).mono ?_); rintro e w1 ⟨rfl, rfl⟩
      have hneB : Hid (u5.ownBlock ≠ some wr.heap.size) := by intro e; have := hown.lt _ e; omega
      have hown2 := qh (fun (o o' : Obj) => (hown.alloc o).alloc o')
      go_wp2_with (at_builtin; refine wpList_append_own _ rfl _ _ 39 rfl w'.heap.size 45 i0 _ 3 32 Tryz.underlying39 hi hz0 hz1 hz2 rfl (by decide) _ _ _ rfl (hown2.out _ _) ⟨wr.heap.size + 1, 0, none⟩ 1 1 [.int .i64 2, .string ⟨(c0 :: r0).toArray⟩, .int .i64 k] rfl rfl ?c1 ?c2 ?c3 ?c4 ?c5 ?_)
      case c1 => have h := news3 (wr.alloc (Obj.cells #[.int .i64 2, .string ⟨(c0 :: r0).toArray⟩, .int .i64 k] 45)) (.int .i64 2) (.string ⟨(c0 :: r0).toArray⟩) (.int .i64 k) 45; rw [World.size_alloc] at h; exact h
      case c2 => exact one3 _ _ _
      case c3 => unfold maxLen; omega
      case c4 => omega
      case c5 => have := hb.size; simp; omega
      intro v' w3 hown' hgrow _
      have c3 : w3.cell? ⟨wr.heap.size, 1, none⟩ = some (.string ⟨(c0 :: r0).toArray⟩) := hgrow.cell (by simp [go_sem]) (Ne.symm hneB.out)
      have hsm := Q3m false (s.drop (k + n))
      have hlen1 := hlen.out
      simp only [List.length_cons] at hlen1
      have hlen2 : ((r0.length : Int) + 1) = n := by omega
      clear hlen1
      simp only [List.length_drop] at hsm
      replace hown' := qh hown'
      have hB3 := qh ((hb.alloc hb.size (Obj.cells #[.int .i64 2, .string ⟨(c0 :: r0).toArray⟩, .int .i64 k] 45)).alloc (by have := hb.size; simp; omega) (Obj.cells #[.int .i64 2, .string ⟨(c0 :: r0).toArray⟩, .int .i64 k] 45) |>.grown hgrow (by have := hb.size; simp; omega) (fun g hg => (hown.lt g hg).1))
      clear hgrow
      go_wp2_with fail
      (with_reducible refine (Qaa _ _ (by simp only [List.length_drop]; omega)).mono ?_); rintro e w1 ⟨rfl, rfl⟩
      go_wp2_with fail
      go_roundw
      case rel => exact ⟨k + n + skip false (s.drop (k + n)), ts ++ [⟨2, c0 :: r0, k⟩], by omega, by go_num, by rw [Q7q, List.length_append]; exact hown'.out, by simp; omega, hB3.out, HG.out.below hB3.out hg0, by have h := Q6g (s.drop (k + n)) false; rwa [List.drop_drop] at h, by rw [← hr.out, hto.out, Q4r, List.drop_drop]⟩
      case measure => simp [intOf]; omega
    ·have hwle := Q2n Q5 (s.drop k)
     have hwpos : 0 < Q1 Q5 (s.drop k) := by omega
     have htok := qh (Qcd hwpos)
     have hm := qh (show (s.drop k).length ≤ maxLen by simp [maxLen]; omega)
     have hrun := qh (fun W => Qaq (s.drop k) hm.out W)
     have hne : s.drop k ≠ [] := by intro e; have := congrArg List.length e; simp at this; omega
     have hlen : (List.take (Q1 Q5 (s.drop k)) (s.drop k)).length = Q1 Q5 (s.drop k) := by rw [List.length_take]; omega
     have hall := hall
     generalize hn : Q1 Q5 (s.drop k) = n at *
     generalize htx : List.take n (s.drop k) = txt at *
     have hdr : Hid (List.drop n (s.drop k) = s.drop (k + n)) := show _ = _ by rw [List.drop_drop]
     have hkn : k + n ≤ s.length := by simp only [List.length_drop] at hwle; omega
     have hne' : Hid (s.drop k ≠ []) := hne
     have hwd := qh (fun W => Qnc txt (by intro e; rw [e] at hlen; simp at hlen; omega) W (by omega))
     replace hlen := qh hlen
     replace hn := qh hn
     clear hw hwle hne
     generalize hwr : Qx txt = res at *
     have hpl := Qt1 txt
     rw [hwr, hlen.out] at hpl
     obtain ⟨kd, pl, er⟩ := res
     replace hpl : pl ≤ n := hpl
     have hwv : Hid (Q3r txt = .tuple #[.int .i64 kd, .int .i64 pl, .int .i64 er]) := show _ = _ by rw [Q3r, hwr]
     replace hwr := qh hwr
     by_cases her : er = 0
     ·subst her
      have hto : Hid (scan s = app (ts ++ [⟨kd, txt, k⟩]) (Q12 (k + n) (s.drop (k + n)))) := show _ = _ by
       have h1 := htok.out
       simp only [if_true] at h1
       rw [hr.out, hall.out.2, Q8s hall.out.1 hne'.out h1, Qbu, htx, List.drop_drop]
      obtain ⟨hz0, hz1, hz2⟩ := HZ.out
      have hi := HI.out
      go_wp2_with fail
      (with_reducible refine (hrun.out _).mono ?_); rintro e w1 ⟨rfl, rfl⟩
      go_wp2_with fail
      (with_reducible refine (hwd.out _).mono ?_); rintro e w2 ⟨rfl, hb2⟩
      rw [hwv.out]
      obtain ⟨hc, hf⟩ := bcell hb2
      have hwsz : wr.heap.size < w2.heap.size := by have := hb2.size; simp at this; omega
      have hneB : u5.ownBlock ≠ some wr.heap.size := by intro e; have := hown.lt _ e; omega
      have hown2 := qh (fun (o : Obj) => (Qj3 (o := 0) (Qse (hown.alloc _) hb2) hneB (.int .i64 kd)).alloc o)
      replace hneB := qh hneB
      clear htok hwr
      go_wp2_with (at_builtin; refine wpList_append_own _ rfl _ _ 39 rfl w'.heap.size 45 i0 _ 3 32 Tryz.underlying39 hi hz0 hz1 hz2 rfl (by decide) _ _ _ rfl (hown2.out _) ⟨w2.heap.size, 0, none⟩ 1 1 [.int .i64 kd, .string ⟨txt.toArray⟩, .int .i64 k] rfl rfl ?c1 ?c2 ?c3 ?c4 ?c5 ?_)
      case c1 => have h := news3 (w2.setCell ⟨wr.heap.size, 0, none⟩ (.int .i64 kd)) (.int .i64 kd) (.string ⟨txt.toArray⟩) (.int .i64 k) 45; rw [World.size_setCell] at h; exact h
      case c2 => exact one3 _ _ _
      case c3 => unfold maxLen; omega
      case c4 => omega
      case c5 => have := hb.size; simp; omega
      intro v' w3 hown' hgrow _
      have c3 : w3.cell? ⟨wr.heap.size, 1, none⟩ = some (.string ⟨txt.toArray⟩) := hgrow.cell (by simp [go_sem, hc, hwsz]) (Ne.symm hneB.out)
      have hlen1 := hlen.out
      have hsm := Q3m false (s.drop (k + n))
      simp only [List.length_drop] at hsm
      replace hown' := qh hown'
      have hB3 := qh (((hb.trans (((Below.refl _ _).alloc hb.size _).trans (hb2.mono (by have := hb.size; simp; omega)))).setCell (p := ⟨wr.heap.size, 0, none⟩) hb.size (.int .i64 kd)).alloc (by have := hb.size; simp; omega) (Obj.cells #[.int .i64 kd, .string ⟨txt.toArray⟩, .int .i64 k] 45) |>.grown hgrow (by have := hb.size; simp; omega) (fun g hg => (hown.lt g hg).1))
      clear hgrow hc hf hb2
      go_wp2_with fail
      (with_reducible refine (Qaa _ _ (by simp only [List.length_drop]; omega)).mono ?_); rintro e w1 ⟨rfl, rfl⟩
      go_wp2_with fail
      go_roundw
      case rel => exact ⟨k + n + skip false (s.drop (k + n)), ts ++ [⟨kd, txt, k⟩], by omega, by go_num, by rw [Q7q, List.length_append]; exact hown'.out, by simp; omega, hB3.out, HG.out.below hB3.out hg0, by have h := Q6g (s.drop (k + n)) false; rwa [List.drop_drop] at h, by rw [← hr.out, hto.out, Q4r, List.drop_drop]⟩
      case measure => simp [intOf]; omega
     ·have hb0 : ((er : Int) != 0) = true := by rw [bne_iff_ne]; omega
      have hto : Hid (scan s = .error (k + pl, er)) := show _ = _ by
       rw [hr.out]
       have h1 := htok.out
       simp only [her, if_false] at h1
       rw [hall.out.2, Qax hall.out.1 hne'.out h1]; rfl
      clear her
      go_wp2_with fail
      (with_reducible refine (hrun.out _).mono ?_); rintro e w1 ⟨rfl, rfl⟩
      go_wp2_with fail
      (with_reducible refine (hwd.out _).mono ?_); rintro e w2 ⟨rfl, hb2⟩
      rw [hwv.out]
      obtain ⟨hc, hf⟩ := bcell hb2
      go_wp2_with fail
      go_ret3
      rw [hto.out]
      exact ⟨hb.trans (((Below.refl _ _).alloc hb.size _).trans (hb2.mono (by have := hb.size; simp; omega))), rfl⟩
   ·have hkl : k = s.length := by omega
    have hres : Hid (scan s = .ok (ts ++ [⟨3, [], s.length⟩])) := show _ = _ by
     rw [hr.out, hall.out.2, List.drop_of_length_le (by omega), Qd2, hkl]; rfl
    obtain ⟨hz0, hz1, hz2⟩ := HZ.out
    have hi := HI.out
    replace hkl := qh hkl
    go_wp2_with (at_builtin; refine wpList_append_own _ rfl _ _ 39 rfl w'.heap.size 45 i0 _ 3 32 Tryz.underlying39 hi hz0 hz1 hz2 rfl (by decide) _ _ _ rfl (hown.alloc _) ⟨wr.heap.size, 0, none⟩ 1 1 [.int .i64 3, .string ⟨#[]⟩, .int .i64 s.length] rfl rfl ?c1 ?c2 ?c3 ?c4 ?c5 ?_)
    case c1 => exact news3 _ _ _ _ _
    case c2 => exact one3 _ _ _
    case c3 => unfold maxLen; omega
    case c4 => omega
    case c5 => have := hb.size; simp; omega
    intro v' w1 hown' hgrow _
    go_wp2_with fail
    go_ret3
    rw [hres.out]
    refine ⟨(hb.alloc hb.size _).grown hgrow (by have := hb.size; simp; omega) (fun g hg => (hown.lt g hg).1), v', rfl, ?_⟩
    rw [Q7q]
    simpa [Q21] using hown'
def Q1f : List (List UInt8) := [[67], [68], [69], [75], [97, 100, 118, 101, 114, 115, 97, 114, 121], [97, 108, 108], [97, 108, 108, 111, 119], [97, 108, 119, 97, 121, 115], [97, 110, 100], [97, 116], [99, 97, 108, 109], [99, 111, 117, 110, 116], [99, 114, 97, 115, 104], [100, 101, 99, 105, 100, 101, 100], [101, 118, 101, 110, 116, 117, 97, 108, 108, 121], [101, 118, 101, 114, 121, 111, 110, 101], [102, 97, 117, 108, 116, 121], [102, 111, 114], [102, 111, 114, 109, 117, 108, 97], [103, 105, 118, 101, 110], [103, 114, 97, 112, 104, 115], [104, 101, 97, 114, 100], [104, 101, 97, 114, 115], [105, 110], [105, 110, 112, 117, 116], [105, 110, 112, 117, 116, 115], [110, 101, 120, 116], [110, 111, 116], [111, 109, 105, 116], [111, 114], [111, 117, 116], [111, 117, 116, 112, 117, 116, 115], [112, 97, 114, 116, 105, 116, 105, 111, 110], [112, 114, 111, 98, 108, 101, 109], [112, 114, 111, 99, 101, 115, 115, 101, 115], [114, 101, 99, 101, 105, 118, 101], [114, 111, 117, 110, 100, 115], [115, 101, 110, 100], [115, 110, 97, 112, 115, 104, 111, 116], [115, 111, 109, 101], [116, 97, 115, 107], [116, 104, 101, 110], [116, 114, 117, 101], [117, 110, 100, 101, 114], [117, 110, 116, 105, 108], [119, 104, 101, 114, 101]]
def Q7a : Array Value := (Q1f.map fun l => Value.string ⟨l.toArray⟩).toArray
def Q0p (w : World) : Prop := Lib.TabIs Tryz.prog w "strings.asciiSpace" .u8 Lib.asciiSpaceTab
theorem Q0p.below {w w' : World} (h : Q0p w) (hb : Below w.heap.size w w') : Q0p w' := by
 unfold Q0p Lib.TabIs World.var? at *
 rw [show Tryz.prog.globalNamed "strings.asciiSpace" = some 4 from by kernel_rfl] at *
 simp only [Option.bind_some] at *
 have : 4 < w.heap.size := by
  rcases Nat.lt_or_ge 4 w.heap.size with h' | h'
  ·exact h'
  ·simp [Array.getElem?_eq_none h'] at h
 rw [hb.block _ this]; exact h
def Q9h : List UInt8 := [67, 32, 68, 32, 69, 32, 75, 32, 97, 100, 118, 101, 114, 115, 97, 114, 121, 32, 97, 108, 108, 32, 97, 108, 108, 111, 119, 32, 97, 108, 119, 97, 121, 115, 32, 97, 110, 100, 32, 97, 116, 32, 99, 97, 108, 109, 32, 99, 111, 117, 110, 116, 32, 99, 114, 97, 115, 104, 32, 100, 101, 99, 105, 100, 101, 100, 32, 101, 118, 101, 110, 116, 117, 97, 108, 108, 121, 32, 101, 118, 101, 114, 121, 111, 110, 101, 32, 102, 97, 117, 108, 116, 121, 32, 102, 111, 114, 32, 102, 111, 114, 109, 117, 108, 97, 32, 103, 105, 118, 101, 110, 32, 103, 114, 97, 112, 104, 115, 32, 104, 101, 97, 114, 100, 32, 104, 101, 97, 114, 115, 32, 105, 110, 32, 105, 110, 112, 117, 116, 32, 105, 110, 112, 117, 116, 115, 32, 110, 101, 120, 116, 32, 110, 111, 116, 32, 111, 109, 105, 116, 32, 111, 114, 32, 111, 117, 116, 32, 111, 117, 116, 112, 117, 116, 115, 32, 112, 97, 114, 116, 105, 116, 105, 111, 110, 32, 112, 114, 111, 98, 108, 101, 109, 32, 112, 114, 111, 99, 101, 115, 115, 101, 115, 32, 114, 101, 99, 101, 105, 118, 101, 32, 114, 111, 117, 110, 100, 115, 32, 115, 101, 110, 100, 32, 115, 110, 97, 112, 115, 104, 111, 116, 32, 115, 111, 109, 101, 32, 116, 97, 115, 107, 32, 116, 104, 101, 110, 32, 116, 114, 117, 101, 32, 117, 110, 100, 101, 114, 32, 117, 110, 116, 105, 108, 32, 119, 104, 101, 114, 101]
theorem Qos : Lib.fields Q9h = Q1f := by kernel_rfl
theorem Qjv : Q9h.all (fun b => decide (b.toNat < 128)) = true := by decide +kernel
theorem Qji (w : World) (hsp : Q0p w) :
  Calls Tryz.prog 175 #[] w fun e w' => e = .returned (.slice (some ⟨w.heap.size, 0, none⟩) 46 46) ∧ w' = w.alloc (.cells Q7a 9) := by
 have hF : Hid (Calls Tryz.prog 197 #[.string ⟨Q9h.toArray⟩] w fun e w' => e = .returned (.slice (some ⟨w.heap.size, 0, none⟩) 46 46) ∧ w' = w.alloc (.cells Q7a 9)) := by
  have h := Tryz.strings_Fields ⟨Q9h.toArray⟩ w (by rw [Q61]; decide) (fun j b hj => by
   have := List.all_eq_true.1 Qjv b (List.mem_of_getElem? hj)
   simpa using this) hsp
  rw [Qos] at h
  exact h
 replace hsp := qh hsp
 go_enter Tryz.func175, Tryz.ntmps175
 go_wp2_with fail
 refine (hF.out).mono ?_
 rintro e w1 ⟨rfl, rfl⟩
 go_wp2_with fail
 go_ret
 exact ⟨rfl, rfl⟩
def kwBA : List ByteArray := Q1f.map fun l => ⟨l.toArray⟩
def Q0 (s : List UInt8) : Bool := decide (s ∈ Q1f)
theorem Qmm (s : List UInt8) : Lib.containsS (kwBA.take 46) ⟨s.toArray⟩ = Q0 s := by
 rw [Bool.eq_iff_iff, Lib.containsS_iff, Q0, decide_eq_true_eq]
 have : kwBA.take 46 = kwBA := by kernel_rfl
 rw [this, kwBA, List.mem_map]
 constructor
 ·rintro ⟨l, hl, e⟩
  have : l = s := by simpa using e
  rw [← this]; exact hl
 ·intro h; exact ⟨s, h, rfl⟩
theorem Qir (w : World) : ∀ j, j < kwBA.length → (w.alloc (.cells Q7a 9)).cell? ⟨w.heap.size, 0 + j, none⟩ = some (.string (kwBA.getD j ByteArray.empty)) := by
 intro j hj
 rw [World.cell?, heap_alloc_new, Nat.zero_add]
 have hj' : j < Q1f.length := by simpa [kwBA] using hj
 simp [Q7a, kwBA, List.getD, hj']
theorem Qhi (s : List UInt8) (w : World) (hsp : Q0p w) :
  Calls Tryz.prog 143 #[.string ⟨s.toArray⟩] w fun e w' => e = .returned (.bool (Q0 s)) ∧ Below w.heap.size w w' := by
 have hK := qh (Qji w hsp)
 have hc := qh (Tryz.slices_Contains_string w.heap.size 0 46 46 kwBA ⟨s.toArray⟩ (w.alloc (.cells Q7a 9)) (by decide) (by omega) (Qir w))
 replace hsp := qh hsp
 go_enter Tryz.func143, Tryz.ntmps143
 go_wp2_with fail
 (with_reducible refine (hK.out).mono ?_); rintro e w1 ⟨rfl, rfl⟩
 go_wp2_with fail
 (with_reducible refine (hc.out).mono ?_); rintro e w1 ⟨rfl, rfl⟩
 rw [Qmm]
 go_wp2_with fail
 go_ret
 exact ⟨rfl, (Below.refl _ _).alloc (Nat.le_refl _) _⟩
end Go.Proofs.YtplbfmcgddnkeaaGreatDoor
namespace Go.Proofs.YtplbfmcgddnkeaaGreatDoor
abbrev Qb : List UInt8 := [116, 104, 101, 110]
abbrev Q0n : List UInt8 := [117, 110, 116, 105, 108]
abbrev Qe : List UInt8 := [99, 111, 117, 110, 116]
abbrev kAll : List UInt8 := [97, 108, 108]
abbrev Q2c : List UInt8 := [115, 111, 109, 101]
abbrev kIn : List UInt8 := [105, 110]
abbrev kOut : List UInt8 := [111, 117, 116]
abbrev Q0g : List UInt8 := [104, 101, 97, 114, 115]
abbrev Q1s : List UInt8 := [115, 110, 97, 112, 115, 104, 111, 116]
abbrev Q19 : List UInt8 := [103, 114, 97, 112, 104, 115]
abbrev Q1g : List UInt8 := [116, 114, 117, 101]
abbrev Q34 : List UInt8 := [101, 118, 101, 114, 121, 111, 110, 101]
abbrev cmps : List (List UInt8) := [[61], [33, 61], [60], [60, 61]]
abbrev sums : List (List UInt8) := [[43], [45]]
abbrev schs : List (List UInt8) := [[99, 114, 97, 115, 104], [115, 101, 110, 100], [114, 101, 99, 101, 105, 118, 101], [111, 109, 105, 116], [112, 97, 114, 116, 105, 116, 105, 111, 110]]
abbrev fone : List (List UInt8) := [[103, 105, 118, 101, 110], [102, 97, 117, 108, 116, 121], [97, 116]]
abbrev ftwo : List (List UInt8) := [[105, 110, 112, 117, 116], [104, 101, 97, 114, 100], [100, 101, 99, 105, 100, 101, 100]]
abbrev fset : List (List UInt8) := [[69], [68], [67]]
abbrev ftim : List (List UInt8) := [[110, 101, 120, 116], [97, 108, 119, 97, 121, 115], [101, 118, 101, 110, 116, 117, 97, 108, 108, 121]]
def opP (k : Nat) (t : List UInt8) : Option (Nat × Nat × Nat) :=
 if k = 0 then if t = kOr then some (0, 0, 1) else if t = kAnd then some (1, 1, 2) else if t ∈ cmps then some (3, 4, 4) else if t ∈ sums then some (4, 4, 5) else none
 else if k = 1 then if t = kOr then some (0, 0, 1) else if t = kAnd then some (1, 1, 2) else if t = Qb then some (2, 3, 2) else none
 else if t = Q0n then some (0, 1, 0) else if t = kOr then some (1, 1, 2) else if t = kAnd then some (2, 2, 3) else none
def own (k : Nat) (t : List UInt8) : Nat := ((opP k t).getD (0, 0, 0)).1
def lft (k : Nat) (t : List UInt8) : Nat := ((opP k t).getD (0, 0, 0)).2.1
def rgt (k : Nat) (t : List UInt8) : Nat := ((opP k t).getD (0, 0, 0)).2.2
def lvl (k : Nat) (t : Syn) : Nat := if t.kind = 11 then own k t.text else if k = 0 ∧ (t.kind = 12 ∨ t.kind = 13 ∧ t.text ≠ Qe) then 2 else 5
def natB (n : Int) : Bool := decide (0 ≤ n) && decide (n ≤ 1048576)
def Q1h (s : List UInt8) : Bool := Q0c 0 s && !Q0 s
def Q2 (t : Syn) : Bool := decide (t.kind = 9) && (t.text == []) && natB t.num && t.kids.isEmpty
def isNm (t : Syn) : Bool := decide (t.kind = 8) && decide (t.num = 0) && t.kids.isEmpty && Q1h t.text
def Qk (t : Syn) : Bool := decide (t.kind = 14) && decide (t.num = 0) && ((t.text == Q34 && t.kids.isEmpty) || (t.text == [] && t.kids.all Q2))
def okc : Syn → Bool
 | .mk k t n p [] => Q2 (.mk k t n p []) || isNm (.mk k t n p [])
 | .mk k t n _ [a] => (decide (k = 12) && (t == []) && decide (n = 0) && okc a) || (decide (k = 10) && decide (n = 0) && (t == kIn || t == kOut) && okc a)
 | .mk k t n _ [a, b] => (decide (k = 13) && (t == kAll || t == Q2c || t == Qe) && decide (n = 0) && isNm a && okc b) ||
   (decide (k = 10) && decide (n = 0) && (t == Q0g) && okc a && okc b) || (decide (k = 11) && decide (n = 0) && (opP 0 t).isSome && okc a && okc b)
 | _ => false
def oks : Syn → Bool
 | .mk k t n p [] => isNm (.mk k t n p []) || (decide (k = 10) && decide (n = 0) && (t == Q1s))
 | .mk k t n _ [a] => decide (k = 10) && decide (n = 0) && ((t == Q19 && okc a) || (schs.contains t && Q2 a))
 | .mk k t n _ [a, b] => decide (k = 11) && (opP 1 t).isSome && (if t = Qb then natB n else decide (n = 0)) && oks a && oks b
 | _ => false
def okf : Syn → Bool
 | .mk k t n _ [] => decide (k = 10) && decide (n = 0) && (t == Q1g)
 | .mk k t n _ [a] => (decide (k = 12) && (t == []) && decide (n = 0) && okf a) || (decide (k = 10) && decide (n = 0) && ((fone.contains t && Q2 a) || (ftim.contains t && okf a)))
 | .mk k t n _ [a, b] => (decide (k = 10) && decide (n = 0) && ((ftwo.contains t && Q2 a && Q2 b) || (t == [75] && Q2 a && okf b) || (fset.contains t && Qk a && okf b))) ||
   (decide (k = 11) && decide (n = 0) && (opP 2 t).isSome && okf a && okf b)
 | _ => false
def opn : Syn → Bool
 | .mk k t _ _ [a] => if k = 13 then t != Qe else decide (k = 12) && decide (2 ≤ lvl 0 a) && opn a
 | .mk k t _ _ [_, b] => if k = 13 then t != Qe else decide (k = 11) && decide (rgt 0 t ≤ lvl 0 b) && opn b
 | .mk k t _ _ _ => decide (k = 13) && t != Qe
def Q0f : Nat → Nat → List UInt8 → List UInt8
 | 0, _, l => l
 | f + 1, n, l => if n < 10 then UInt8.ofNat (48 + n) :: l else Q0f f (n / 10) (UInt8.ofNat (48 + n % 10) :: l)
def dec (n : Nat) : List UInt8 := Q0f (n + 1) n []
def par (b : Bool) (s : List UInt8) : List UInt8 := if b then 40 :: (s ++ [41]) else s
def Q1n (t : List UInt8) (a : Syn) : Bool := (t == kOr || t == kAnd) && opn a
def wrc : Syn → List UInt8
 | .mk k t n _ [] => if k = 9 then dec n.toNat else t
 | .mk k t _ _ [a] => if k = 12 then kNot ++ 32 :: par (decide (lvl 0 a < 2)) (wrc a) else t ++ 40 :: (par (decide (lvl 0 a < 4)) (wrc a) ++ [41])
 | .mk k t _ _ [a, b] =>
  if k = 13 then if t = Qe then t ++ 32 :: (a.text ++ 32 :: par true (wrc b)) else t ++ 32 :: (a.text ++ 58 :: 32 :: wrc b)
  else if k = 10 then t ++ 40 :: (par (decide (lvl 0 a < 4)) (wrc a) ++ 44 :: 32 :: (par (decide (lvl 0 b < 4)) (wrc b) ++ [41]))
  else par (Q1n t a || decide (lvl 0 a < lft 0 t)) (wrc a) ++ 32 :: (t ++ 32 :: par (decide (lvl 0 b < rgt 0 t)) (wrc b))
 | _ => []
def wrs : Syn → List UInt8
 | .mk _ t _ _ [] => t
 | .mk _ t _ _ [a] => t ++ 40 :: (wrc a ++ [41])
 | .mk _ t n _ [a, b] => par (decide (lvl 1 a < lft 1 t)) (wrs a) ++ 32 :: (t ++ 32 :: ((if t = Qb then dec n.toNat ++ [32] else []) ++ par (decide (lvl 1 b < rgt 1 t)) (wrs b)))
 | _ => []
def commas : List (List UInt8) → List UInt8
 | [] => []
 | [x] => x
 | x :: y :: r => x ++ 44 :: 32 :: commas (y :: r)
def wset (t : Syn) : List UInt8 := if t.text = [] then 123 :: (commas (t.kids.map fun x => dec x.num.toNat) ++ [125]) else t.text
def warg (t : Syn) : List UInt8 := if t.kind = 9 then dec t.num.toNat else wset t
def wrf : Syn → List UInt8
 | .mk _ t _ _ [] => t
 | .mk k t _ _ [a] => if k = 12 then kNot ++ 32 :: par (decide (lvl 2 a < 3)) (wrf a) else if fone.contains t then t ++ 40 :: (warg a ++ [41]) else t ++ 40 :: (wrf a ++ [41])
 | .mk k t _ _ [a, b] =>
  if k = 10 then if ftwo.contains t then t ++ 40 :: (warg a ++ 44 :: 32 :: (warg b ++ [41])) else t ++ 40 :: (warg a ++ 44 :: 32 :: (wrf b ++ [41]))
  else par (decide (lvl 2 a < lft 2 t)) (wrf a) ++ 32 :: (t ++ 32 :: par (decide (lvl 2 b < rgt 2 t)) (wrf b))
 | _ => []
def Q0b (k : Int) (t : Syn) : Bool := decide (t.kind = k) && (t.text == []) && decide (t.num = 0) && (match t.kids with | [a] => okc a | _ => false)
def Q3x (l : List Syn) : Bool :=
 match l with
 | [] => false
 | a :: l => Q2 a &&
  let l' := match l with | b :: r => if b.kind = 2 then if Q0b 2 b then some r else none else some l | [] => some []
  match l' with
  | none => false
  | some [] => false
  | some [b] => Q0b 3 b
  | some [b, c] => Q0b 3 b && Q0b 4 c
  | some (_ :: _ :: _ :: _) => false
def Q2x (t : Syn) : Bool :=
 Q1h t.text && natB t.num &&
 (if t.kind = 1 then Q3x t.kids
 else if t.kind = 5 then decide (t.num = 0) && (match t.kids with | [a] => oks a | _ => false)
 else if t.kind = 6 then decide (t.num = 0) && (match t.kids with | [a] => okf a | _ => false)
 else if t.kind = 7 then (match t.kids with | [a, b] => isNm a && isNm b | _ => false)
 else false)
def Q6j (t : Syn) : Bool := decide (t.kind = 0) && (t.text == []) && natB t.num && t.kids.all Q2x
abbrev Qrv : List UInt8 := [116, 97, 115, 107]
abbrev kAdv : List UInt8 := [97, 100, 118, 101, 114, 115, 97, 114, 121]
abbrev Qjy : List UInt8 := [102, 111, 114, 109, 117, 108, 97]
abbrev Qn8 : List UInt8 := [112, 114, 111, 98, 108, 101, 109]
abbrev Qf5 : List UInt8 := [119, 104, 101, 114, 101]
abbrev Qf2 : List UInt8 := [97, 108, 108, 111, 119]
abbrev Qe8 : List UInt8 := [99, 97, 108, 109]
abbrev Qni : List UInt8 := [105, 110, 112, 117, 116, 115]
abbrev Qp1 : List UInt8 := [111, 117, 116, 112, 117, 116, 115]
abbrev Qqq : List UInt8 := [117, 110, 100, 101, 114]
abbrev Qlc : List UInt8 := [114, 111, 117, 110, 100, 115]
abbrev Qt0 : List UInt8 := [112, 114, 111, 99, 101, 115, 115, 101, 115]
def kid0 (t : Syn) : Syn := t.kids.headD Q2r
def kid1 (t : Syn) : Syn := (t.kids.drop 1).headD Q2r
def wpart (t : Syn) : List UInt8 := 32 :: ((if t.kind = 2 then Qf5 else if t.kind = 3 then Qf2 else Qe8) ++ 32 :: wrc (kid0 t))
def wdecl (t : Syn) : List UInt8 :=
 (if t.kind = 1 then Qrv ++ 32 :: (t.text ++ 32 :: (Qni ++ 32 :: (dec t.num.toNat ++ 32 :: (Qp1 ++ 32 :: (dec (kid0 t).num.toNat ++ (t.kids.drop 1).flatMap wpart)))))
 else if t.kind = 5 then kAdv ++ 32 :: (t.text ++ 32 :: 61 :: 32 :: wrs (kid0 t))
 else if t.kind = 6 then Qjy ++ 32 :: (t.text ++ 32 :: 61 :: 32 :: wrf (kid0 t))
 else Qn8 ++ 32 :: (t.text ++ 32 :: 61 :: 32 :: ((kid0 t).text ++ 32 :: (Qqq ++ 32 :: ((kid1 t).text ++ 32 :: (Qlc ++ 32 :: dec t.num.toNat)))))) ++ [59, 10]
def wprog (t : Syn) : List UInt8 := Qt0 ++ 32 :: (dec t.num.toNat ++ 59 :: 10 :: t.kids.flatMap wdecl)
end Go.Proofs.YtplbfmcgddnkeaaGreatDoor
namespace Go.Proofs.YtplbfmcgddnkeaaGreatDoor
open Go.RowKit
inductive KidR (w : World) : List Syn → Value → Prop
 | nil {p : Option Addr} {c : Nat} : KidR w [] (.slice p 0 c)
 | row {l : List Syn} {b o c : Nat} {u : Nat → Value} (hc : ∀ i (hi : i < l.length), w.cell? ⟨b, o + i * 5, none⟩ = some (.int .i64 l[i].kind) ∧ w.cell? ⟨b, o + i * 5 + 1, none⟩ = some (.string ⟨l[i].text.toArray⟩) ∧
   w.cell? ⟨b, o + i * 5 + 2, none⟩ = some (.int .i64 l[i].num) ∧ w.cell? ⟨b, o + i * 5 + 3, none⟩ = some (.int .i64 l[i].pos) ∧ w.cell? ⟨b, o + i * 5 + 4, none⟩ = some (u i))
   (hk : ∀ i (hi : i < l.length), KidR w l[i].kids (u i)) (hcap : l.length ≤ c) : KidR w l (.slice (some ⟨b, o, none⟩) l.length c)
theorem Qj {w w' : World} {b o : Nat} {v : Value} (h : w.cell? ⟨b, o, none⟩ = some v) (hb : Below w.heap.size w w') : w'.cell? ⟨b, o, none⟩ = some v := by
 rw [hb.cell (World.block_lt_of_cell? w ⟨b, o, none⟩ h)]; exact h
theorem KidR.low {w w' : World} (hb : Below w.heap.size w w') : ∀ {l : List Syn} {v : Value}, KidR w l v → KidR w' l v := by
 intro l v h
 induction h with
 | nil => exact .nil
 | row hc _ hcap ih => exact .row (fun i hi => ⟨Qj (hc i hi).1 hb, Qj (hc i hi).2.1 hb, Qj (hc i hi).2.2.1 hb, Qj (hc i hi).2.2.2.1 hb, Qj (hc i hi).2.2.2.2 hb⟩) ih hcap
theorem KidR.form {w : World} {l : List Syn} {v : Value} (h : KidR w l v) : ∃ (p : Option Addr) (c : Nat), v = .slice p l.length c := by
 cases h with
 | nil => exact ⟨_, _, rfl⟩
 | row => exact ⟨_, _, rfl⟩
theorem KidR.cap {w : World} {l : List Syn} {p : Option Addr} {n c : Nat} (h : KidR w l (.slice p n c)) : l.length ≤ c := by
 cases h with
 | nil => exact Nat.zero_le _
 | row _ _ hcap => exact hcap
abbrev KidC (w : World) (b o : Nat) (t : Syn) (q : Option Addr) (d : Nat) : Prop :=
 w.cell? ⟨b, o, none⟩ = some (.int .i64 t.kind) ∧ w.cell? ⟨b, o + 1, none⟩ = some (.string ⟨t.text.toArray⟩) ∧ w.cell? ⟨b, o + 2, none⟩ = some (.int .i64 t.num) ∧
   w.cell? ⟨b, o + 3, none⟩ = some (.int .i64 t.pos) ∧ w.cell? ⟨b, o + 4, none⟩ = some (.slice q t.kids.length d)
theorem KidR.get {w : World} {l : List Syn} {p : Option Addr} {n c : Nat} (h : KidR w l (.slice p n c)) (i : Nat) (hi : i < l.length) :
  ∃ b o q d, p = some (⟨b, o, none⟩ : Addr) ∧ KidC w b (o + i * 5) l[i] q d ∧ KidR w l[i].kids (.slice q l[i].kids.length d) := by
 cases h with
 | nil => exact absurd hi (Nat.not_lt_zero _)
 | row hc hk hcap =>
  rename_i u _
  have h1 := hk i hi
  have h2 := hc i hi
  obtain ⟨q, d, e⟩ := h1.form
  rw [e] at h1 h2
  exact ⟨_, _, q, d, rfl, h2, h1⟩
theorem beqI (a b : Int) : (a == b) = decide (a = b) := by by_cases h : a = b <;> simp [h]
theorem five {w : World} {B : Nat} {k n a : Int} {tx : List UInt8} {v : Value} (h : w.heap[B]? = some (.cells #[.int .i64 k, .string ⟨List.toArray tx⟩, .int .i64 n, .int .i64 a, v] 24 (0, 0))) :
  w.cell? ⟨B, 0, none⟩ = some (.int .i64 k) ∧ w.cell? ⟨B, 1, none⟩ = some (.string ⟨List.toArray tx⟩) ∧ w.cell? ⟨B, 2, none⟩ = some (.int .i64 n) ∧ w.cell? ⟨B, 3, none⟩ = some (.int .i64 a) ∧ w.cell? ⟨B, 4, none⟩ = some v := by
 refine ⟨?_, ?_, ?_, ?_, ?_⟩ <;> (rw [World.cell?, h]; rfl)
abbrev boxed (w : World) (k : Int) (tx : List UInt8) (n a : Int) (p : Option Addr) (m c : Nat) : World := w.alloc (.cells #[.int .i64 k, .string ⟨List.toArray tx⟩, .int .i64 n, .int .i64 a, .slice p m c] 24)
theorem Qf (w : World) (k : Int) (tx : List UInt8) (n a : Int) (p : Option Addr) (m c : Nat) : Below w.heap.size w (boxed w k tx n a p m c) := (Below.refl _ _).alloc (Nat.le_refl _) _
theorem Qg (w : World) (k : Int) (tx : List UInt8) (n a : Int) (p : Option Addr) (m c : Nat) : (boxed w k tx n a p m c).heap[w.heap.size]? = some (.cells #[.int .i64 k, .string ⟨List.toArray tx⟩, .int .i64 n, .int .i64 a, .slice p m c] 24 (0, 0)) := heap_alloc_new _ _
inductive Mod : Syn → Prop
 | mk {kd : Int} {tx : List UInt8} {n a : Int} {k : List Syn} (ht : tx.length ≤ 1000000) (h : k.length ≤ 100000) (hk : ∀ z ∈ k, Mod z) : Mod (.mk kd tx n a k)
theorem Mod.text {t : Syn} (h : Mod t) : t.text.length ≤ 1000000 := by cases h; assumption
theorem Mod.len {t : Syn} (h : Mod t) : t.kids.length ≤ 100000 := by cases h; assumption
theorem Mod.kid {t : Syn} (h : Mod t) : ∀ z ∈ t.kids, Mod z := by cases h; assumption
def Q4u : List ByteArray := Qv.map fun l => ⟨l.toArray⟩
theorem Qon (s : List UInt8) : Lib.containsS (Q4u.take 13) ⟨s.toArray⟩ = decide (s ∈ Qv) := by
 rw [Bool.eq_iff_iff, Lib.containsS_iff, decide_eq_true_eq]
 have : Q4u.take 13 = Q4u := rfl
 rw [this, Q4u, List.mem_map]
 constructor
 ·rintro ⟨l, hl, e⟩
  have : l = s := by simpa using e
  rw [← this]; exact hl
 ·intro h; exact ⟨s, h, rfl⟩
theorem Qlf {w : World} (h : Q0q w) : ∀ j, j < Q4u.length → w.cell? ⟨0, 0 + j, none⟩ = some (.string (Q4u.getD j ByteArray.empty)) := by
 obtain ⟨t, fr, h⟩ := h
 intro j hj
 have hj' : j < 13 := hj
 simp only [World.cell?, h, Nat.zero_add]
 match j, hj' with
 | 0, _ => rfl
 | 1, _ => rfl
 | 2, _ => rfl
 | 3, _ => rfl
 | 4, _ => rfl
 | 5, _ => rfl
 | 6, _ => rfl
 | 7, _ => rfl
 | 8, _ => rfl
 | 9, _ => rfl
 | 10, _ => rfl
 | 11, _ => rfl
 | 12, _ => rfl
theorem Qtg (s : List UInt8) (w : World) : Calls Tryz.prog 142 #[.int .i64 3, .string ⟨s.toArray⟩] w fun e w' => e = .returned (.bool (Q0c 3 s)) ∧ w = w' := by
 cases s with
 | nil =>
  go_enter Tryz.func142, Tryz.ntmps142
  go_wp2_with fail
  go_ret
  exact ⟨rfl, rfl⟩
 | cons c r =>
  go_enter Tryz.func142, Tryz.ntmps142
  go_wp2_with fail
  go_ret
  exact ⟨rfl, rfl⟩
theorem Qtr (s : List UInt8) (w : World) (hg : Q0q w) : Calls Tryz.prog 142 #[.int .i64 2, .string ⟨s.toArray⟩] w fun e w' => e = .returned (.bool (Q0c 2 s)) ∧ w = w' := by
 have hc := qh (Tryz.slices_Contains_string 0 0 13 13 Q4u ⟨s.toArray⟩ w (by decide) (by omega) (Qlf hg))
 replace hg := qh hg
 go_enter Tryz.func142, Tryz.ntmps142
 go_wp2_with fail
 (with_reducible refine (hc.out).mono ?_); rintro e w1 ⟨rfl, rfl⟩
 rw [Qon]
 go_wp2_with fail
 go_ret
 exact ⟨rfl, rfl⟩
theorem Ql8 (kind : Int) (s : List UInt8) (w : World) (hs : s.length ≤ 1000000) (h3 : kind ≠ 3) (h2 : kind ≠ 2) : Calls Tryz.prog 142 #[.int .i64 kind, .string ⟨s.toArray⟩] w fun e w' => e = .returned (.bool (Q0c kind s)) ∧ Below w.heap.size w w' := by
 have hb3 : (kind == 3) = false := by rw [beq_eq_false_iff_ne]; exact h3
 have hb2 : (kind == 2) = false := by rw [beq_eq_false_iff_ne]; exact h2
 have hf : Q0c kind s = (!s.isEmpty && decide (Q1 Q5 s = s.length) && decide ((Qx s).2.2 = 0) && decide (((Qx s).1 : Int) = kind)) := by rw [Q0c, if_neg h3, if_neg h2]
 clear h3 h2
 cases s with
 | nil =>
  replace hf := qh hf
  go_enter Tryz.func142, Tryz.ntmps142
  go_wp2_with fail
  go_ret
  exact ⟨Q4 hf.out.symm, Below.refl _ _⟩
 | cons c r =>
  have hrun := qh (fun W => Qaq (c :: r) (by simp only [maxLen]; omega) W)
  have hle := Q2n Q5 (c :: r)
  have hw := qh (fun W => Qds c r W (by omega))
  by_cases hd : Q1 Q5 (c :: r) < (c :: r).length
  ·have hr : Hid (Q0c kind (c :: r) = false) := show _ = _ by
    rw [hf, decide_eq_false (show ¬ Q1 Q5 (c :: r) = (c :: r).length by omega)]; simp
   clear hf hle
   generalize Q1 Q5 (c :: r) = n at *
   simp only [List.length_cons] at hd hs
   go_enter Tryz.func142, Tryz.ntmps142
   go_wp2_with fail
   (with_reducible refine (hrun.out _).mono ?_); rintro e w1 ⟨rfl, rfl⟩
   go_wp2_with fail
   go_ret
   exact ⟨Q4 hr.out.symm, Below.refl _ _⟩
  ·have hr : Q0c kind (c :: r) = (decide ((Qx (c :: r)).2.2 = 0) && decide (((Qx (c :: r)).1 : Int) = kind)) := by
    rw [hf, decide_eq_true (show Q1 Q5 (c :: r) = (c :: r).length by omega)]; simp
   clear hf
   generalize Q1 Q5 (c :: r) = n at *
   have hwv : Q3r (c :: r) = .tuple #[.int .i64 (Qx (c :: r)).1, .int .i64 (Qx (c :: r)).2.1, .int .i64 (Qx (c :: r)).2.2] := rfl
   rw [hwv] at hw
   generalize Qx (c :: r) = res at *
   obtain ⟨kd, pl, er⟩ := res
   replace hr := qh hr
   clear hwv
   simp only [List.length_cons] at hd hs hle
   have hcs : (((er : Int) == 0) = true ∧ ((kd : Int) == kind) = true ∧ er = 0 ∧ (kd : Int) = kind) ∨ (((er : Int) == 0) = true ∧ ((kd : Int) == kind) = false ∧ ¬ (kd : Int) = kind) ∨ (((er : Int) == 0) = false ∧ er ≠ 0) := by
    by_cases h1 : er = 0
    ·by_cases h2 : (kd : Int) = kind
     ·exact .inl ⟨by simp [h1], by simp [h2], h1, h2⟩
     ·exact .inr (.inl ⟨by simp [h1], by simp [h2], h2⟩)
    ·exact .inr (.inr ⟨by rw [beq_eq_false_iff_ne]; omega, h1⟩)
   rcases hcs with ⟨b1, b2, e1, e2⟩ | ⟨b1, b2, e2⟩ | ⟨b1, e1⟩
   ·have hr' : Hid (Q0c kind (c :: r) = true) := show _ = _ by rw [hr.out]; simp [e1, e2]
    clear e1 e2 hr
    go_enter Tryz.func142, Tryz.ntmps142
    go_wp2_with fail
    (with_reducible refine (hrun.out _).mono ?_); rintro e w1 ⟨rfl, rfl⟩
    go_wp2_with fail
    (with_reducible refine (hw.out _).mono ?_); rintro e w2 ⟨rfl, hb⟩
    go_wp2_with fail
    go_ret
    exact ⟨Q4 hr'.out.symm, hb⟩
   ·have hr' : Hid (Q0c kind (c :: r) = false) := show _ = _ by rw [hr.out]; simp [e2]
    clear e2 hr
    go_enter Tryz.func142, Tryz.ntmps142
    go_wp2_with fail
    (with_reducible refine (hrun.out _).mono ?_); rintro e w1 ⟨rfl, rfl⟩
    go_wp2_with fail
    (with_reducible refine (hw.out _).mono ?_); rintro e w2 ⟨rfl, hb⟩
    go_wp2_with fail
    go_ret
    exact ⟨Q4 hr'.out.symm, hb⟩
   ·have hr' : Hid (Q0c kind (c :: r) = false) := show _ = _ by rw [hr.out]; simp [e1]
    clear e1 hr
    go_enter Tryz.func142, Tryz.ntmps142
    go_wp2_with fail
    (with_reducible refine (hrun.out _).mono ?_); rintro e w1 ⟨rfl, rfl⟩
    go_wp2_with fail
    (with_reducible refine (hw.out _).mono ?_); rintro e w2 ⟨rfl, hb⟩
    go_wp2_with fail
    go_ret
    exact ⟨Q4 hr'.out.symm, hb⟩
theorem Qqv (kind : Int) (s : List UInt8) (w : World) (hs : s.length ≤ 1000000) (hg : Q0q w) : Calls Tryz.prog 142 #[.int .i64 kind, .string ⟨s.toArray⟩] w fun e w' => e = .returned (.bool (Q0c kind s)) ∧ Below w.heap.size w w' := by
 by_cases h3 : kind = 3
 ·subst h3; exact (Qtg s w).mono fun e w' h => ⟨h.1, h.2 ▸ Below.refl _ _⟩
 ·by_cases h2 : kind = 2
  ·subst h2; exact (Qtr s w hg).mono fun e w' h => ⟨h.1, h.2 ▸ Below.refl _ _⟩
  ·exact Ql8 kind s w hs h3 h2
end Go.Proofs.YtplbfmcgddnkeaaGreatDoor
