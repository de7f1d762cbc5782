/- Walks: Scan of the reference; Same. -/
import Derived.Test.YtpgedklpnnhjlaaGreatDoorRefB
set_option maxHeartbeats 1000000
set_option maxRecDepth 100000
namespace Go.Proofs.YtpgedklpnnhjlaaGreatDoor
open Go.RowKit
theorem refScan_any (s : List UInt8) (w : World) (hs : s.length ≤ 1000000) :
    Calls Tryz.prog 11 #[.string ⟨s.toArray⟩] w (ScanOut w (scan s)) := by
  by_cases hlong : 65536 < s.length
  · have hr : Hid (scan s = .error (0, 13)) := show _ = _ by rw [scan, if_pos hlong]
    go_enter Tryz.func11, Tryz.ntmps11
    go_wp2_with fail
    go_ret3
    rw [hr.out]
    exact ⟨Below.refl _ _, rfl⟩
  · have hle : s.length ≤ 65536 := by omega
    have hr := Lib.hid (scan_eq hle)
    obtain ⟨i0, hi, hz0, hz1, hz2⟩ := info_parts tok_info
    have HI := Lib.hid hi
    have HZ := Lib.hid (And.intro hz0 (And.intro hz1 hz2))
    clear hi hz0 hz1 hz2 hlong
    have hsk := skip_le false s
    have hB0 := Lib.hid (show ∀ W, Calls Tryz.prog 39 #[.string ⟨s.toArray⟩, .int .i64 0] W fun e w' => e = .returned (.int .i64 (skip false s)) ∧ w' = W from fun W => (refBlank_any s 0 W (by omega) (by omega)).mono (fun e w' h => by simpa using h))
    go_enter Tryz.func11, Tryz.ntmps11
    go_wp2_with fail
    (with_reducible refine (hB0.out _).mono ?_); rintro e w' ⟨rfl, rfl⟩
    clear hB0
    go_wp2_with fail
    go_loopw [5, 6] (fun v i wr => ∃ k : Nat, ∃ ts : List Tok, k ≤ s.length ∧ i = .int .i64 k ∧ wr.ownsRow w'.heap.size 32 3 v ts.length (tokCells ts) ∧ ts.length ≤ k ∧ Below w'.heap.size w' wr ∧ Hid (skip false (s.drop k) = 0 ∧ scanL 0 s = app ts (scanL k (s.drop k)))) (fun _ i _ => s.length - (intOf i).toNat)
    case atStart => exact ⟨skip false s, [], hsk, rfl, World.ownsRow_nil _ _ _ _, by simp, Below.refl _ _, skip_idem s false, by rw [app_nil, scanL_skip]; simp⟩
    case round =>
      obtain ⟨k, ts, hk, rfl, hown, hts, hb, hall⟩ := hrel
      by_cases hlt : k < s.length
      · have hN := Lib.hid (fun W => refNext_any s k W hs hlt)
        have hne' : Hid (s.drop k ≠ []) := by intro e; have := congrArg List.length e; simp at this; omega
        cases ht : tok (s.drop k) with
        | error x =>
          obtain ⟨d, er⟩ := x
          rw [ht] at hN
          have her : 0 < er := by
            unfold tok at ht; (repeat' split at ht) <;> simp at ht <;> omega
          have hb0 : ((er : Int) != 0) = true := by rw [bne_iff_ne]; omega
          have hto : Hid (scan s = .error (k + d, er)) := show _ = _ by
            rw [hr.out, hall.out.2, scanL_error hall.out.1 hne'.out ht]; rfl
          clear ht her
          go_wp2_with fail
          (with_reducible refine (hN.out _).mono ?_); rintro e w1 ⟨rfl, nd, rfl⟩
          simp only [nextVal]
          go_wp2_with fail
          go_ret3
          rw [hto.out]
          exact ⟨below_drawn hb nd, rfl⟩
        | ok x =>
          obtain ⟨kd, n⟩ := x
          rw [ht] at hN
          have hp := tok_pos ht
          have hto : Hid (scan s = app (ts ++ [⟨kd, (s.drop k).take n, k⟩]) (scanL (k + n) (s.drop (k + n)))) := show _ = _ by
            rw [hr.out, hall.out.2, scanL_ok hall.out.1 hne'.out ht, app_app, List.drop_drop]
          simp only [List.length_drop] at hp
          obtain ⟨hnpos, hnle⟩ := hp
          have hkn : k + n ≤ s.length := by omega
          have hBl := fun W => refBlank_any s (k + n) W (by omega) hkn
          simp only [Int.natCast_add] at hBl
          replace hBl := Lib.hid hBl
          have hsm := skip_le false (s.drop (k + n))
          simp only [List.length_drop] at hsm
          obtain ⟨hz0, hz1, hz2⟩ := HZ.out
          have hi := HI.out
          clear ht
          generalize htx : (s.drop k).take n = txt at *
          go_wp2_with fail
          (with_reducible refine (hN.out _).mono ?_); rintro e w1 ⟨rfl, nd, rfl⟩
          simp only [nextVal]
          go_wp2_with (at_builtin; refine wpList_append_own _ rfl _ _ 24 rfl w'.heap.size 32 i0 _ 3 32 Tryz.underlying24 hi hz0 hz1 hz2 rfl (by decide) _ _ _ rfl (show World.ownsRow ((wr.alloc _).drewN nd) _ _ _ _ _ _ from (hown.alloc _)) ⟨wr.heap.size, 0, none⟩ 1 1 [.int .i64 kd, .string ⟨txt.toArray⟩, .int .i64 k] rfl rfl ?c1 ?c2 ?c3 ?c4 ?c5 ?_)
          case c1 => exact fun j u h => news3 wr _ _ _ _ j u h
          case c2 => exact one3 _ _ _
          case c3 => unfold maxLen; omega
          case c4 => omega
          case c5 => have := hb.size; simp; omega
          intro v' w3 hown' hgrow _
          replace hown' := Lib.hid hown'
          have hB3 := Lib.hid ((below_drawn (hb.alloc hb.size (Obj.cells #[.int .i64 kd, .string ⟨txt.toArray⟩, .int .i64 k] 32)) nd).grown hgrow (by have := hb.size; simp; omega) (fun g hg => (hown.lt g hg).1))
          clear hgrow
          go_wp2_with fail
          (with_reducible refine (hBl.out _).mono ?_); rintro e w1 ⟨rfl, rfl⟩
          go_wp2_with fail
          go_roundw
          case rel => exact ⟨k + n + skip false (s.drop (k + n)), ts ++ [⟨kd, txt, k⟩], by omega, by go_num, by rw [tokCells_append, List.length_append]; exact hown'.out, by simp; omega, hB3.out, by have h := skip_idem (s.drop (k + n)) false; rwa [List.drop_drop] at h, by rw [← hr.out, hto.out, scanL_skip, List.drop_drop]⟩
          case measure => simp [intOf]; omega
      · have hkl : k = s.length := by omega
        have hres : Hid (scan s = .ok (ts ++ [⟨3, [], s.length⟩])) := show _ = _ by
          rw [hr.out, hall.out.2, List.drop_of_length_le (by omega), scanL_nil, hkl]; rfl
        obtain ⟨hz0, hz1, hz2⟩ := HZ.out
        have hi := HI.out
        replace hkl := Lib.hid hkl
        go_wp2_with (at_builtin; refine wpList_append_own _ rfl _ _ 24 rfl w'.heap.size 32 i0 _ 3 32 Tryz.underlying24 hi hz0 hz1 hz2 rfl (by decide) _ _ _ rfl (hown.alloc _) ⟨wr.heap.size, 0, none⟩ 1 1 [.int .i64 3, .string ⟨#[]⟩, .int .i64 s.length] rfl rfl ?c1 ?c2 ?c3 ?c4 ?c5 ?_)
        case c1 => exact news3 _ _ _ _ _
        case c2 => exact one3 _ _ _
        case c3 => unfold maxLen; omega
        case c4 => omega
        case c5 => have := hb.size; simp; omega
        intro v' w1 hown' hgrow _
        go_wp2_with fail
        go_ret3
        rw [hres.out]
        refine ⟨(hb.alloc hb.size _).grown hgrow (by have := hb.size; simp; omega) (fun g hg => (hown.lt g hg).1), v', rfl, ?_⟩
        rw [tokCells_append]
        simpa [tokCells] using hown'
end Go.Proofs.YtpgedklpnnhjlaaGreatDoor
