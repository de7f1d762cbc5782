/- Walks: Scan of package lexer. -/
import Derived.Test.YtpgedklpnnhjlaaGreatDoorLexD
set_option maxHeartbeats 1000000
set_option maxRecDepth 100000
namespace Go.Proofs.YtpgedklpnnhjlaaGreatDoor
open Go.RowKit
theorem bcell {W w1 : World} (hb : Below W.heap.size W w1) : (∀ b o, b < W.heap.size → w1.cell? ⟨b, o, none⟩ = W.cell? ⟨b, o, none⟩) ∧ (∀ b o, b < W.heap.size → w1.frozen? ⟨b, o, none⟩ = W.frozen? ⟨b, o, none⟩) :=
  ⟨fun b o h => hb.cell (p := ⟨b, o, none⟩) h, fun b o h => hb.frozen (p := ⟨b, o, none⟩) h⟩
theorem below_drawn {B : Nat} {a w : World} (h : Below B a w) (n : Nat) : Below B a (w.drewN n) := h.trans ⟨rfl, rfl, rfl, Nat.le_refl _, fun _ _ => rfl⟩
theorem tok_info : (Tryz.prog.info? 32).map (fun i => (i.zero, i.size, i.bytes)) = some (some (.agg #[.int .i64 0, .string ByteArray.empty, .int .i64 0]), 3, 32) := by kernel_rfl
/-- The cells of tokens. -/
def tokCells : List Tok → List Value
  | [] => []
  | t :: r => .int .i64 t.kind :: .string ⟨t.text.toArray⟩ :: .int .i64 t.pos :: tokCells r
theorem tokCells_append (a b : List Tok) : tokCells (a ++ b) = tokCells a ++ tokCells b := by
  induction a with
  | nil => rfl
  | cons t r ih => simp [tokCells, ih]
theorem tokCells_length (a : List Tok) : (tokCells a).length = a.length * 3 := by
  induction a with
  | nil => rfl
  | cons t r ih => simp [tokCells, ih]; omega
theorem SignsAt.below {w w' : World} {B : Nat} (h : SignsAt w) (hb : Below B w w') (hB : 0 < B) : SignsAt w' := by
  obtain ⟨t, fr, h⟩ := h
  exact ⟨t, fr, by rw [hb.block _ hB]; exact h⟩
/-- The results of Scan: the slice of the tokens in new memory; or an offset and an error. -/
def ScanOut (w : World) (r : Except (Nat × Nat) (List Tok)) (e : Ending) (w' : World) : Prop :=
  Below w.heap.size w w' ∧ match r with
  | .error (d, x) => e = .returned (.tuple #[.slice none 0 0, .int .i64 d, .int .i64 x])
  | .ok ts => ∃ v, e = .returned (.tuple #[v, .int .i64 0, .int .i64 0]) ∧ w'.ownsRow w.heap.size 32 3 v ts.length (tokCells ts)
theorem news3 (w : World) (a b c : Value) (T : TypeId) : ∀ j u, [a, b, c][j]? = some u → (w.alloc (.cells #[a, b, c] T)).cell? ((⟨w.heap.size, 0, none⟩ : Addr).add j) = some u := by
  intro j u h
  have : (⟨w.heap.size, 0, none⟩ : Addr).add j = ⟨w.heap.size, j, none⟩ := by unfold Addr.add; split <;> simp_all
  rw [this, World.cell?, heap_alloc_new]
  simpa using h
theorem one3 (k p : Int) (s : ByteArray) : ∀ u ∈ [Value.int .i64 k, .string s, .int .i64 p], u.oneCell' = true := by
  intro u h
  simp at h
  rcases h with rfl | rfl | rfl <;> rfl
theorem owns_below {w w' : World} {B e size n : Nat} {v : Value} {xs : List Value} (h : w.ownsRow B e size v n xs) (hb : Below w.heap.size w w') : w'.ownsRow B e size v n xs :=
  h.kept (row := none) ⟨hb.os, hb.tape, hb.output, hb.size, fun k hk _ => hb.block k hk⟩ (by cases hv : v.ownBlock <;> simp)
theorem owns_set {w : World} {B e size n b o : Nat} {v : Value} {xs : List Value} (h : w.ownsRow B e size v n xs) (hne : v.ownBlock ≠ some b) (x : Value) : (w.setCell ⟨b, o, none⟩ x).ownsRow B e size v n xs :=
  h.kept (row := some b) ⟨rfl, rfl, rfl, by simp [World.setCell], fun k _ hk => Below.heap_setCell _ _ _ _ (fun e => hk (by simp [e]))⟩ (Or.inr hne)
theorem word_ne (l : List UInt8) (h : l ≠ []) (w : World) (hl : l.length ≤ 1000000000) :
    Calls Tryz.prog 37 #[.string ⟨l.toArray⟩] w fun e w' => e = .returned (wordVal l) ∧ Below w.heap.size w w' := by
  match l, h with
  | c :: r, _ => exact word_any c r w hl
theorem scan_any (s : List UInt8) (w : World) (hs : s.length ≤ 1000000) (hg : SignsAt w) (hg0 : 0 < w.heap.size) :
    Calls Tryz.prog 10 #[.string ⟨s.toArray⟩] w (ScanOut w (scan s)) := by
  by_cases hlong : 65536 < s.length
  · have hr : Hid (scan s = .error (0, 13)) := show _ = _ by rw [scan, if_pos hlong]
    go_enter Tryz.func10, Tryz.ntmps10
    go_wp2_with fail
    go_ret3
    rw [hr.out]
    exact ⟨Below.refl _ _, rfl⟩
  · have hle : s.length ≤ 65536 := by omega
    have hr := Lib.hid (scan_eq hle)
    obtain ⟨i0, hi, hz0, hz1, hz2⟩ := info_parts tok_info
    have HG := Lib.hid hg
    have HI := Lib.hid hi
    have HZ := Lib.hid (And.intro hz0 (And.intro hz1 hz2))
    clear hg hi hz0 hz1 hz2 hlong
    have hsk := skip_le false s
    go_enter Tryz.func10, Tryz.ntmps10
    go_wp2_with fail
    (with_reducible refine (separated_any _ _ (by omega)).mono ?_); rintro e w' ⟨rfl, rfl⟩
    go_wp2_with fail
    obtain ⟨w0, hw0⟩ : ∃ w0 : World, w0 = w' := ⟨_, rfl⟩
    replace hw0 := Lib.hid hw0
    go_loopw [5, 6] (fun v i wr => ∃ k : Nat, ∃ ts : List Tok, k ≤ s.length ∧ i = .int .i64 k ∧ wr.ownsRow w'.heap.size 32 3 v ts.length (tokCells ts) ∧ ts.length ≤ k ∧ Below w'.heap.size w' wr ∧ SignsAt wr ∧ Hid (skip false (s.drop k) = 0 ∧ scanL 0 s = app ts (scanL k (s.drop k)))) (fun _ i _ => s.length - (intOf i).toNat)
    case atStart => exact ⟨skip false s, [], hsk, rfl, World.ownsRow_nil _ _ _ _, by simp, Below.refl _ _, HG.out, skip_idem s false, by rw [app_nil, scanL_skip]; simp⟩
    case round =>
      obtain ⟨k, ts, hk, rfl, hown, hts, hb, hsg, hall⟩ := hrel
      by_cases hlt : k < s.length
      · by_cases hw : runLen isWordy (s.drop k) = 0
        · have htok := Lib.hid (tok_sign hw)
          have hm := Lib.hid (show (s.drop k).length ≤ maxLen by simp [maxLen]; omega)
          have hrun := fun W => run_wordy (s.drop k) hm.out W
          rw [hw] at hrun
          replace hrun := Lib.hid hrun
          have hne' : Hid (s.drop k ≠ []) := by intro e; have := congrArg List.length e; simp at this; omega
          have hsl := signLen_le (s.drop k)
          have hfp := firstPrefix_signs (s.drop k)
          have hsd := Lib.hid (fun W => sign_any (s.drop k) W hm.out)
          have hlen : (firstPrefix signTexts (s.drop k)).length = signLen (s.drop k) := by rw [hfp, List.length_take]; omega
          have hfl : Hid (firstPrefix signTexts (s.drop k) = (s.drop k).take (firstPrefix signTexts (s.drop k)).length) := show _ = _ by rw [hlen]; exact hfp
          have hkn : k + (firstPrefix signTexts (s.drop k)).length ≤ s.length := by simp only [List.length_drop] at hsl; omega
          clear hw hfp hsl hlen
          have hsg2 : ∀ o, SignsAt (wr.alloc o) := fun o => hsg.below ((Below.refl _ _).alloc (Nat.le_refl _) o) (by have := hb.size; omega)
          generalize firstPrefix signTexts (s.drop k) = sg at *
          cases sg with
          | nil =>
            have hto : Hid (scan s = .error (k, 4)) := show _ = _ by
              have h1 := htok.out
              simp only [if_true] at h1
              rw [hr.out, hall.out.2, scanL_error hall.out.1 hne'.out h1]; rfl
            replace hsg2 := Lib.hid hsg2
            go_wp2_with fail
            (with_reducible refine (hrun.out _).mono ?_); rintro e w1 ⟨rfl, rfl⟩
            go_wp2_with fail
            (with_reducible refine (hsd.out _ (hsg2.out _)).mono ?_); rintro e w1 ⟨rfl, rfl⟩
            go_wp2_with fail
            go_ret3
            rw [hto.out]
            exact ⟨hb.alloc hb.size _, rfl⟩
          | cons c0 r0 =>
            replace hsg2 := Lib.hid hsg2
            have hlp : 0 < (c0 :: r0).length := by simp
            generalize hn : (c0 :: r0).length = n at *
            have hlen : Hid ((c0 :: r0).length = n) := hn
            replace hn := Lib.hid hn
            have hto : Hid (scan s = app (ts ++ [⟨2, c0 :: r0, k⟩]) (scanL (k + n) (s.drop (k + n)))) := show _ = _ by
              have h1 := htok.out
              rw [if_neg (by simp)] at h1
              rw [hr.out, hall.out.2, scanL_ok hall.out.1 hne'.out h1, app_app, List.drop_drop, ← hfl.out]; rfl
            obtain ⟨hz0, hz1, hz2⟩ := HZ.out
            have hi := HI.out
            go_wp2_with fail
            (with_reducible refine (hrun.out _).mono ?_); rintro e w1 ⟨rfl, rfl⟩
            go_wp2_with fail
            (with_reducible refine (hsd.out _ (hsg2.out _)).mono ?_); rintro e w1 ⟨rfl, rfl⟩
            have hneB : Hid (u5.ownBlock ≠ some wr.heap.size) := by intro e; have := hown.lt _ e; omega
            have hown2 := Lib.hid (fun (o o' : Obj) => (hown.alloc o).alloc o')
            go_wp2_with (at_builtin; refine wpList_append_own _ rfl _ _ 24 rfl w'.heap.size 32 i0 _ 3 32 Tryz.underlying24 hi hz0 hz1 hz2 rfl (by decide) _ _ _ rfl (hown2.out _ _) ⟨wr.heap.size + 1, 0, none⟩ 1 1 [.int .i64 2, .string ⟨(c0 :: r0).toArray⟩, .int .i64 k] rfl rfl ?c1 ?c2 ?c3 ?c4 ?c5 ?_)
            case c1 => have h := news3 (wr.alloc (Obj.cells #[.int .i64 2, .string ⟨(c0 :: r0).toArray⟩, .int .i64 k] 32)) (.int .i64 2) (.string ⟨(c0 :: r0).toArray⟩) (.int .i64 k) 32; rw [World.size_alloc] at h; exact h
            case c2 => exact one3 _ _ _
            case c3 => unfold maxLen; omega
            case c4 => omega
            case c5 => have := hb.size; simp; omega
            intro v' w3 hown' hgrow _
            have c3 : w3.cell? ⟨wr.heap.size, 1, none⟩ = some (.string ⟨(c0 :: r0).toArray⟩) := hgrow.cell (by simp [go_sem]) (Ne.symm hneB.out)
            have hsm := skip_le false (s.drop (k + n))
            have hlen1 := hlen.out
            simp only [List.length_cons] at hlen1
            have hlen2 : ((r0.length : Int) + 1) = n := by omega
            clear hlen1
            simp only [List.length_drop] at hsm
            replace hown' := Lib.hid hown'
            have hB3 := Lib.hid ((hb.alloc hb.size (Obj.cells #[.int .i64 2, .string ⟨(c0 :: r0).toArray⟩, .int .i64 k] 32)).alloc (by have := hb.size; simp; omega) (Obj.cells #[.int .i64 2, .string ⟨(c0 :: r0).toArray⟩, .int .i64 k] 32) |>.grown hgrow (by have := hb.size; simp; omega) (fun g hg => (hown.lt g hg).1))
            clear hgrow
            go_wp2_with fail
            (with_reducible refine (separated_any _ _ (by simp only [List.length_drop]; omega)).mono ?_); rintro e w1 ⟨rfl, rfl⟩
            go_wp2_with fail
            go_roundw
            case rel => exact ⟨k + n + skip false (s.drop (k + n)), ts ++ [⟨2, c0 :: r0, k⟩], by omega, by go_num, by rw [tokCells_append, List.length_append]; exact hown'.out, by simp; omega, hB3.out, HG.out.below hB3.out hg0, by have h := skip_idem (s.drop (k + n)) false; rwa [List.drop_drop] at h, by rw [← hr.out, hto.out, scanL_skip, List.drop_drop]⟩
            case measure => simp [intOf]; omega
        · have hwle := runLen_le isWordy (s.drop k)
          have hwpos : 0 < runLen isWordy (s.drop k) := by omega
          have htok := Lib.hid (wordRes_tok hwpos)
          have hm := Lib.hid (show (s.drop k).length ≤ maxLen by simp [maxLen]; omega)
          have hrun := Lib.hid (fun W => run_wordy (s.drop k) hm.out W)
          have hne : s.drop k ≠ [] := by intro e; have := congrArg List.length e; simp at this; omega
          have hlen : (List.take (runLen isWordy (s.drop k)) (s.drop k)).length = runLen isWordy (s.drop k) := by rw [List.length_take]; omega
          have hall := hall
          generalize hn : runLen isWordy (s.drop k) = n at *
          generalize htx : List.take n (s.drop k) = txt at *
          have hdr : Hid (List.drop n (s.drop k) = s.drop (k + n)) := show _ = _ by rw [List.drop_drop]
          have hkn : k + n ≤ s.length := by simp only [List.length_drop] at hwle; omega
          have hne' : Hid (s.drop k ≠ []) := hne
          have hwd := Lib.hid (fun W => word_ne txt (by intro e; rw [e] at hlen; simp at hlen; omega) W (by omega))
          replace hlen := Lib.hid hlen
          replace hn := Lib.hid hn
          clear hw hwle hne
          generalize hwr : wordRes txt = res at *
          have hpl := wordRes_le txt
          rw [hwr, hlen.out] at hpl
          obtain ⟨kd, pl, er⟩ := res
          replace hpl : pl ≤ n := hpl
          have hwv : Hid (wordVal txt = .tuple #[.int .i64 kd, .int .i64 pl, .int .i64 er]) := show _ = _ by rw [wordVal, hwr]
          replace hwr := Lib.hid hwr
          by_cases her : er = 0
          · subst her
            have hto : Hid (scan s = app (ts ++ [⟨kd, txt, k⟩]) (scanL (k + n) (s.drop (k + n)))) := show _ = _ by
              have h1 := htok.out
              simp only [if_true] at h1
              rw [hr.out, hall.out.2, scanL_ok hall.out.1 hne'.out h1, app_app, htx, List.drop_drop]
            obtain ⟨hz0, hz1, hz2⟩ := HZ.out
            have hi := HI.out
            go_wp2_with fail
            (with_reducible refine (hrun.out _).mono ?_); rintro e w1 ⟨rfl, rfl⟩
            go_wp2_with fail
            (with_reducible refine (hwd.out _).mono ?_); rintro e w2 ⟨rfl, hb2⟩
            rw [hwv.out]
            obtain ⟨hc, hf⟩ := bcell hb2
            have hwsz : wr.heap.size < w2.heap.size := by have := hb2.size; simp at this; omega
            have hneB : u5.ownBlock ≠ some wr.heap.size := by intro e; have := hown.lt _ e; omega
            have hown2 := Lib.hid (fun (o : Obj) => (owns_set (o := 0) (owns_below (hown.alloc _) hb2) hneB (.int .i64 kd)).alloc o)
            replace hneB := Lib.hid hneB
            clear htok hwr
            go_wp2_with (at_builtin; refine wpList_append_own _ rfl _ _ 24 rfl w'.heap.size 32 i0 _ 3 32 Tryz.underlying24 hi hz0 hz1 hz2 rfl (by decide) _ _ _ rfl (hown2.out _) ⟨w2.heap.size, 0, none⟩ 1 1 [.int .i64 kd, .string ⟨txt.toArray⟩, .int .i64 k] rfl rfl ?c1 ?c2 ?c3 ?c4 ?c5 ?_)
            case c1 => have h := news3 (w2.setCell ⟨wr.heap.size, 0, none⟩ (.int .i64 kd)) (.int .i64 kd) (.string ⟨txt.toArray⟩) (.int .i64 k) 32; rw [World.size_setCell] at h; exact h
            case c2 => exact one3 _ _ _
            case c3 => unfold maxLen; omega
            case c4 => omega
            case c5 => have := hb.size; simp; omega
            intro v' w3 hown' hgrow _
            have c3 : w3.cell? ⟨wr.heap.size, 1, none⟩ = some (.string ⟨txt.toArray⟩) := hgrow.cell (by simp [go_sem, hc, hwsz]) (Ne.symm hneB.out)
            have hlen1 := hlen.out
            have hsm := skip_le false (s.drop (k + n))
            simp only [List.length_drop] at hsm
            replace hown' := Lib.hid hown'
            have hB3 := Lib.hid (((hb.trans (((Below.refl _ _).alloc hb.size _).trans (hb2.mono (by have := hb.size; simp; omega)))).setCell (p := ⟨wr.heap.size, 0, none⟩) hb.size (.int .i64 kd)).alloc (by have := hb.size; simp; omega) (Obj.cells #[.int .i64 kd, .string ⟨txt.toArray⟩, .int .i64 k] 32) |>.grown hgrow (by have := hb.size; simp; omega) (fun g hg => (hown.lt g hg).1))
            clear hgrow hc hf hb2
            go_wp2_with fail
            (with_reducible refine (separated_any _ _ (by simp only [List.length_drop]; omega)).mono ?_); rintro e w1 ⟨rfl, rfl⟩
            go_wp2_with fail
            go_roundw
            case rel => exact ⟨k + n + skip false (s.drop (k + n)), ts ++ [⟨kd, txt, k⟩], by omega, by go_num, by rw [tokCells_append, List.length_append]; exact hown'.out, by simp; omega, hB3.out, HG.out.below hB3.out hg0, by have h := skip_idem (s.drop (k + n)) false; rwa [List.drop_drop] at h, by rw [← hr.out, hto.out, scanL_skip, List.drop_drop]⟩
            case measure => simp [intOf]; omega
          · have hb0 : ((er : Int) != 0) = true := by rw [bne_iff_ne]; omega
            have hto : Hid (scan s = .error (k + pl, er)) := show _ = _ by
              rw [hr.out]
              have h1 := htok.out
              simp only [her, if_false] at h1
              rw [hall.out.2, scanL_error hall.out.1 hne'.out h1]; rfl
            clear her
            go_wp2_with fail
            (with_reducible refine (hrun.out _).mono ?_); rintro e w1 ⟨rfl, rfl⟩
            go_wp2_with fail
            (with_reducible refine (hwd.out _).mono ?_); rintro e w2 ⟨rfl, hb2⟩
            rw [hwv.out]
            obtain ⟨hc, hf⟩ := bcell hb2
            go_wp2_with fail
            go_ret3
            rw [hto.out]
            exact ⟨hb.trans (((Below.refl _ _).alloc hb.size _).trans (hb2.mono (by have := hb.size; simp; omega))), rfl⟩
      · have hkl : k = s.length := by omega
        have hres : Hid (scan s = .ok (ts ++ [⟨3, [], s.length⟩])) := show _ = _ by
          rw [hr.out, hall.out.2, List.drop_of_length_le (by omega), scanL_nil, hkl]; rfl
        obtain ⟨hz0, hz1, hz2⟩ := HZ.out
        have hi := HI.out
        replace hkl := Lib.hid hkl
        go_wp2_with (at_builtin; refine wpList_append_own _ rfl _ _ 24 rfl w'.heap.size 32 i0 _ 3 32 Tryz.underlying24 hi hz0 hz1 hz2 rfl (by decide) _ _ _ rfl (hown.alloc _) ⟨wr.heap.size, 0, none⟩ 1 1 [.int .i64 3, .string ⟨#[]⟩, .int .i64 s.length] rfl rfl ?c1 ?c2 ?c3 ?c4 ?c5 ?_)
        case c1 => exact news3 _ _ _ _ _
        case c2 => exact one3 _ _ _
        case c3 => unfold maxLen; omega
        case c4 => omega
        case c5 => have := hb.size; simp; omega
        intro v' w1 hown' hgrow _
        go_wp2_with fail
        go_ret3
        rw [hres.out]
        refine ⟨(hb.alloc hb.size _).grown hgrow (by have := hb.size; simp; omega) (fun g hg => (hown.lt g hg).1), v', rfl, ?_⟩
        rw [tokCells_append]
        simpa [tokCells] using hown'
end Go.Proofs.YtpgedklpnnhjlaaGreatDoor
