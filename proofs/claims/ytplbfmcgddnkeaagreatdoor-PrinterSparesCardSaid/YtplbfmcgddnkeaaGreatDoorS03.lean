/- Joined: LexD, LexE, LexK, Wr. -/
import Derived.Test.YtplbfmcgddnkeaaGreatDoorS02
import Derived.Test.YtplbfmcgddnkeaaGreatDoorS01
set_option linter.unusedVariables false
set_option linter.unusedSimpArgs false
section
set_option maxHeartbeats 400000
namespace Go.Proofs.YtplbfmcgddnkeaaGreatDoor
open Go.RowKit
theorem below_bytes (w : World) (e : TypeId) (s : ByteArray) : Below w.heap.size w (Lib.bytesWorld w e s) := by
  unfold Lib.bytesWorld World.freeze
  split
  · exact (Below.refl _ _).drew.alloc (Nat.le_refl _) _
  · have h := ((Below.refl w.heap.size w).drew.alloc (Nat.le_refl _) (.cells (Lib.bytesCells w e s) e))
    refine h.trans ⟨rfl, rfl, rfl, by simp, fun k hk => ?_⟩
    simp only [Array.getElem?_modify]
    rw [if_neg (by omega)]
theorem great_any (l : List UInt8) (w : World) (hl : l.length ≤ 1000000000) (hd : ∀ c ∈ l, isDigit c.toNat = true) :
    Calls Tryz.prog 82 #[.string ⟨l.toArray⟩] w fun e w' => e = .returned (.bool (greatB l)) ∧ Below w.heap.size w w' := by
  have hl := hl
  have h1 := Tryz.strings_TrimLeft_one ⟨l.toArray⟩ 48 (by decide) w
  have H1 : Hid (Calls Tryz.prog 130 #[.string ⟨l.toArray⟩, .string ⟨#[48]⟩] w fun e w' => e = .returned (.string ⟨(l.dropWhile (· == (48 : UInt8))).toArray⟩) ∧ w' = w) := h1
  clear h1
  by_cases hg : 7 < (l.dropWhile (· == (48 : UInt8))).length
  · have hr := Lib.hid (dv_long hd hg)
    have hle := (List.dropWhile_sublist (p := (· == (48 : UInt8))) (l := l)).length_le
    clear hd
    generalize l.dropWhile (· == (48 : UInt8)) = m at *
    go_enter Tryz.func82, Tryz.ntmps82
    (go_wp2_with fail; (with_reducible refine (H1.out).mono ?_); rintro e w' ⟨rfl, rfl⟩)
    go_wp2_with fail
    go_ret
    exact ⟨ret_b (by simp [greatB, hr.out]), Below.refl _ _⟩
  · have ha := atoi_zero _ (trim_digits hd)
    rw [dv_zeros] at ha
    have hv : dv 0 l ≤ dv 0 l := Nat.le_refl _
    clear hd
    generalize l.dropWhile (· == (48 : UInt8)) = m at *
    generalize hn : dv 0 l = n at *
    have HA := Lib.hid (Tryz.strconv_Atoi ⟨(48 :: m).toArray⟩ n (by rw [ba_size]; simp; omega) ha w)
    have hn := Lib.hid hn
    clear ha
    go_enter Tryz.func82, Tryz.ntmps82
    (go_wp2_with fail; (with_reducible refine (H1.out).mono ?_); rintro e w' ⟨rfl, rfl⟩)
    go_wp2_with fail
    (with_reducible refine (HA.out).mono ?_); rintro e w'' ⟨rfl, t, rfl⟩
    go_wp2_with fail
    go_ret
    exact ⟨ret_b (by simp [greatB, hn.out]; omega), below_bytes _ _ _⟩
def wordVal (l : List UInt8) : Value := .tuple #[.int .i64 (wordRes l).1, .int .i64 (wordRes l).2.1, .int .i64 (wordRes l).2.2]
theorem runLen_head {p : Int → Bool} {c : UInt8} {r : List UInt8} : (runLen p (c :: r) = 0) = (p c.toNat = false) := by
  simp only [runLen]; cases p c.toNat <;> simp
theorem word_any (c : UInt8) (r : List UInt8) (w : World) (hl : (c :: r).length ≤ 1000000000) :
    Calls Tryz.prog 41 #[.string ⟨(c :: r).toArray⟩] w fun e w' => e = .returned (wordVal (c :: r)) ∧ Below w.heap.size w w' := by
  have hm := Lib.hid (show (c :: r).length ≤ maxLen by simp only [maxLen]; omega)
  cases hc : isLetter c.toNat
  · have h0 : runLen isLetter (c :: r) = 0 := by rw [runLen_head]; exact hc
    have hw : wordRes (c :: r) = if runLen isDigit (c :: r) < (c :: r).length then (0, runLen isDigit (c :: r), 4) else if greatB (c :: r) then (0, 0, 2) else (1, 0, 0) := by rw [wordRes, if_pos h0]
    have hle := runLen_le isDigit (c :: r)
    have hc := Lib.hid hc
    clear h0
    by_cases hd : runLen isDigit (c :: r) < (c :: r).length
    · rw [if_pos hd] at hw
      have hw := Lib.hid hw
      have hd' : (runLen isDigit (c :: r) : Int) < (c :: r).length := by omega
      simp only [List.length_cons] at hd hle hd' hl
      go_enter Tryz.func41, Tryz.ntmps41
      (go_wp2_with fail; (with_reducible refine (letter_any _ _).mono ?_); rintro e w' ⟨rfl, rfl⟩)
      rw [hc.out]
      (go_wp2_with fail; (with_reducible refine (run_digit _ hm.out _).mono ?_); rintro e w' ⟨rfl, rfl⟩)
      go_wp2_with fail
      go_ret3
      exact ⟨by rw [wordVal, hw.out]; rfl, Below.refl _ _⟩
    · have hall := Lib.hid (runLen_full (show runLen isDigit (c :: r) = (c :: r).length by omega))
      have hle' : (c :: r).length ≤ runLen isDigit (c :: r) := by omega
      rw [if_neg hd] at hw
      have hlen := Lib.hid hl
      simp only [List.length_cons] at hd hle hl hle'
      cases hg : greatB (c :: r)
      all_goals
        rw [hg] at hw
        have hw := Lib.hid hw
        have hg := Lib.hid hg
        go_enter Tryz.func41, Tryz.ntmps41
        (go_wp2_with fail; (with_reducible refine (letter_any _ _).mono ?_); rintro e w' ⟨rfl, rfl⟩)
        rw [hc.out]
        (go_wp2_with fail; (with_reducible refine (run_digit _ hm.out _).mono ?_); rintro e w' ⟨rfl, rfl⟩)
        go_wp2_with fail
        (with_reducible refine (great_any (c :: r) _ hlen.out hall.out).mono ?_)
        rintro e w1 ⟨rfl, hb⟩
        rw [hg.out]
        go_wp2_with fail
        go_ret3
        exact ⟨by rw [wordVal, hw.out]; rfl, hb⟩
  · have h0 : ¬ runLen isLetter (c :: r) = 0 := by rw [runLen_head]; simp [hc]
    have hw : wordRes (c :: r) = if 24 < (c :: r).length then (0, 0, 8) else (0, 0, 0) := by rw [wordRes, if_neg h0]
    have hc := Lib.hid hc
    clear h0
    by_cases hd : 24 < (c :: r).length
    · rw [if_pos hd] at hw
      have hw := Lib.hid hw
      simp only [List.length_cons] at hd hl
      go_enter Tryz.func41, Tryz.ntmps41
      (go_wp2_with fail; (with_reducible refine (letter_any _ _).mono ?_); rintro e w' ⟨rfl, rfl⟩)
      rw [hc.out]
      go_wp2_with fail
      go_ret3
      exact ⟨by rw [wordVal, hw.out]; rfl, Below.refl _ _⟩
    · rw [if_neg hd] at hw
      have hw := Lib.hid hw
      simp only [List.length_cons] at hd hl
      go_enter Tryz.func41, Tryz.ntmps41
      (go_wp2_with fail; (with_reducible refine (letter_any _ _).mono ?_); rintro e w' ⟨rfl, rfl⟩)
      rw [hc.out]
      go_wp2_with fail
      go_ret3
      exact ⟨by rw [wordVal, hw.out]; rfl, Below.refl _ _⟩
end Go.Proofs.YtplbfmcgddnkeaaGreatDoor
end
section
set_option maxHeartbeats 1000000
set_option maxRecDepth 100000
namespace Go.Proofs.YtplbfmcgddnkeaaGreatDoor
open Go.RowKit
theorem bcell {W w1 : World} (hb : Below W.heap.size W w1) : (∀ b o, b < W.heap.size → w1.cell? ⟨b, o, none⟩ = W.cell? ⟨b, o, none⟩) ∧ (∀ b o, b < W.heap.size → w1.frozen? ⟨b, o, none⟩ = W.frozen? ⟨b, o, none⟩) :=
  ⟨fun b o h => hb.cell (p := ⟨b, o, none⟩) h, fun b o h => hb.frozen (p := ⟨b, o, none⟩) h⟩
theorem below_drawn {B : Nat} {a w : World} (h : Below B a w) (n : Nat) : Below B a (w.drewN n) := h.trans ⟨rfl, rfl, rfl, Nat.le_refl _, fun _ _ => rfl⟩
theorem tok_info : (Tryz.prog.info? 45).map (fun i => (i.zero, i.size, i.bytes)) = some (some (.agg #[.int .i64 0, .string ByteArray.empty, .int .i64 0]), 3, 32) := by kernel_rfl
def tokCells : List Tok → List Value
  | [] => []
  | t :: r => .int .i64 t.kind :: .string ⟨t.text.toArray⟩ :: .int .i64 t.pos :: tokCells r
theorem tokCells_append (a b : List Tok) : tokCells (a ++ b) = tokCells a ++ tokCells b := by
  induction a with
  | nil => rfl
  | cons t r ih => simp [tokCells, ih]
theorem SignsAt.below {w w' : World} {B : Nat} (h : SignsAt w) (hb : Below B w w') (hB : 0 < B) : SignsAt w' := by
  obtain ⟨t, fr, h⟩ := h
  exact ⟨t, fr, by rw [hb.block _ hB]; exact h⟩
def ScanOut (w : World) (r : Except (Nat × Nat) (List Tok)) (e : Ending) (w' : World) : Prop :=
  Below w.heap.size w w' ∧ match r with
  | .error (d, x) => e = .returned (.tuple #[.slice none 0 0, .int .i64 d, .int .i64 x])
  | .ok ts => ∃ v, e = .returned (.tuple #[v, .int .i64 0, .int .i64 0]) ∧ w'.ownsRow w.heap.size 45 3 v ts.length (tokCells ts)
theorem news3 (w : World) (a b c : Value) (T : TypeId) : ∀ j u, [a, b, c][j]? = some u → (w.alloc (.cells #[a, b, c] T)).cell? ((⟨w.heap.size, 0, none⟩ : Addr).add j) = some u := by
  intro j u h
  have : (⟨w.heap.size, 0, none⟩ : Addr).add j = ⟨w.heap.size, j, none⟩ := by unfold Addr.add; split <;> simp_all
  rw [this, World.cell?, heap_alloc_new]
  simpa using h
theorem one3 (k p : Int) (s : ByteArray) : ∀ u ∈ [Value.int .i64 k, .string s, .int .i64 p], u.oneCell' = true := by
  intro u h
  simp at h
  rcases h with rfl | rfl | rfl <;> rfl
theorem owns_below {w w' : World} {B e size n : Nat} {v : Value} {xs : List Value} (h : w.ownsRow B e size v n xs) (hb : Below w.heap.size w w') : w'.ownsRow B e size v n xs :=
  h.kept (row := none) ⟨hb.os, hb.tape, hb.output, hb.size, fun k hk _ => hb.block k hk⟩ (by cases hv : v.ownBlock <;> simp)
theorem owns_set {w : World} {B e size n b o : Nat} {v : Value} {xs : List Value} (h : w.ownsRow B e size v n xs) (hne : v.ownBlock ≠ some b) (x : Value) : (w.setCell ⟨b, o, none⟩ x).ownsRow B e size v n xs :=
  h.kept (row := some b) ⟨rfl, rfl, rfl, by simp [World.setCell], fun k _ hk => Below.heap_setCell _ _ _ _ (fun e => hk (by simp [e]))⟩ (Or.inr hne)
theorem word_ne (l : List UInt8) (h : l ≠ []) (w : World) (hl : l.length ≤ 1000000000) :
    Calls Tryz.prog 41 #[.string ⟨l.toArray⟩] w fun e w' => e = .returned (wordVal l) ∧ Below w.heap.size w w' := by
  match l, h with
  | c :: r, _ => exact word_any c r w hl
theorem scan_any (s : List UInt8) (w : World) (hs : s.length ≤ 1000000) (hg : SignsAt w) (hg0 : 0 < w.heap.size) :
    Calls Tryz.prog 23 #[.string ⟨s.toArray⟩] w (ScanOut w (scan s)) := by
  by_cases hlong : 65536 < s.length
  · have hr : Hid (scan s = .error (0, 13)) := show _ = _ by rw [scan, if_pos hlong]
    go_enter Tryz.func23, Tryz.ntmps23
    go_wp2_with fail
    go_ret3
    rw [hr.out]
    exact ⟨Below.refl _ _, rfl⟩
  · have hle : s.length ≤ 65536 := by omega
    have hr := Lib.hid (scan_eq hle)
    obtain ⟨i0, hi, hz0, hz1, hz2⟩ := info_parts tok_info
    have HG := Lib.hid hg
    have HI := Lib.hid hi
    have HZ := Lib.hid (And.intro hz0 (And.intro hz1 hz2))
    clear hg hi hz0 hz1 hz2 hlong
    have hsk := skip_le false s
    go_enter Tryz.func23, Tryz.ntmps23
    go_wp2_with fail
    (with_reducible refine (separated_any _ _ (by omega)).mono ?_); rintro e w' ⟨rfl, rfl⟩
    go_wp2_with fail
    obtain ⟨w0, hw0⟩ : ∃ w0 : World, w0 = w' := ⟨_, rfl⟩
    replace hw0 := Lib.hid hw0
    go_loopw [5, 6] (fun v i wr => ∃ k : Nat, ∃ ts : List Tok, k ≤ s.length ∧ i = .int .i64 k ∧ wr.ownsRow w'.heap.size 45 3 v ts.length (tokCells ts) ∧ ts.length ≤ k ∧ Below w'.heap.size w' wr ∧ SignsAt wr ∧ Hid (skip false (s.drop k) = 0 ∧ scanL 0 s = app ts (scanL k (s.drop k)))) (fun _ i _ => s.length - (intOf i).toNat)
    case atStart => exact ⟨skip false s, [], hsk, rfl, World.ownsRow_nil _ _ _ _, by simp, Below.refl _ _, HG.out, skip_idem s false, by rw [app_nil, scanL_skip]; simp⟩
    case round =>
      obtain ⟨k, ts, hk, rfl, hown, hts, hb, hsg, hall⟩ := hrel
      by_cases hlt : k < s.length
      · by_cases hw : runLen isWordy (s.drop k) = 0
        · have htok := Lib.hid (tok_sign hw)
          have hm := Lib.hid (show (s.drop k).length ≤ maxLen by simp [maxLen]; omega)
          have hrun := fun W => run_wordy (s.drop k) hm.out W
          rw [hw] at hrun
          replace hrun := Lib.hid hrun
          have hne' : Hid (s.drop k ≠ []) := by intro e; have := congrArg List.length e; simp at this; omega
          have hsl := signLen_le (s.drop k)
          have hfp := firstPrefix_signs (s.drop k)
          have hsd := Lib.hid (fun W => sign_any (s.drop k) W hm.out)
          have hlen : (firstPrefix signTexts (s.drop k)).length = signLen (s.drop k) := by rw [hfp, List.length_take]; omega
          have hfl : Hid (firstPrefix signTexts (s.drop k) = (s.drop k).take (firstPrefix signTexts (s.drop k)).length) := show _ = _ by rw [hlen]; exact hfp
          have hkn : k + (firstPrefix signTexts (s.drop k)).length ≤ s.length := by simp only [List.length_drop] at hsl; omega
          clear hw hfp hsl hlen
          have hsg2 : ∀ o, SignsAt (wr.alloc o) := fun o => hsg.below ((Below.refl _ _).alloc (Nat.le_refl _) o) (by have := hb.size; omega)
          generalize firstPrefix signTexts (s.drop k) = sg at *
          cases sg with
          | nil =>
            have hto : Hid (scan s = .error (k, 4)) := show _ = _ by
              have h1 := htok.out
              simp only [if_true] at h1
              rw [hr.out, hall.out.2, scanL_error hall.out.1 hne'.out h1]; rfl
            replace hsg2 := Lib.hid hsg2
            go_wp2_with fail
            (with_reducible refine (hrun.out _).mono ?_); rintro e w1 ⟨rfl, rfl⟩
            go_wp2_with fail
            (with_reducible refine (hsd.out _ (hsg2.out _)).mono ?_); rintro e w1 ⟨rfl, rfl⟩
            go_wp2_with fail
            go_ret3
            rw [hto.out]
            exact ⟨hb.alloc hb.size _, rfl⟩
          | cons c0 r0 =>
            replace hsg2 := Lib.hid hsg2
            have hlp : 0 < (c0 :: r0).length := by simp
            generalize hn : (c0 :: r0).length = n at *
            have hlen : Hid ((c0 :: r0).length = n) := hn
            replace hn := Lib.hid hn
            have hto : Hid (scan s = app (ts ++ [⟨2, c0 :: r0, k⟩]) (scanL (k + n) (s.drop (k + n)))) := show _ = _ by
              have h1 := htok.out
              rw [if_neg (by simp)] at h1
              rw [hr.out, hall.out.2, scanL_ok hall.out.1 hne'.out h1, app_app, List.drop_drop, ← hfl.out]; rfl
            obtain ⟨hz0, hz1, hz2⟩ := HZ.out
            have hi := HI.out
            go_wp2_with fail
            (with_reducible refine (hrun.out _).mono ?_); rintro e w1 ⟨rfl, rfl⟩
            go_wp2_with fail
            (with_reducible refine (hsd.out _ (hsg2.out _)).mono ?_); rintro e w1 ⟨rfl, rfl⟩
            have hneB : Hid (u5.ownBlock ≠ some wr.heap.size) := by intro e; have := hown.lt _ e; omega
            have hown2 := Lib.hid (fun (o o' : Obj) => (hown.alloc o).alloc o')
            go_wp2_with (at_builtin; refine wpList_append_own _ rfl _ _ 39 rfl w'.heap.size 45 i0 _ 3 32 Tryz.underlying39 hi hz0 hz1 hz2 rfl (by decide) _ _ _ rfl (hown2.out _ _) ⟨wr.heap.size + 1, 0, none⟩ 1 1 [.int .i64 2, .string ⟨(c0 :: r0).toArray⟩, .int .i64 k] rfl rfl ?c1 ?c2 ?c3 ?c4 ?c5 ?_)
            case c1 => have h := news3 (wr.alloc (Obj.cells #[.int .i64 2, .string ⟨(c0 :: r0).toArray⟩, .int .i64 k] 45)) (.int .i64 2) (.string ⟨(c0 :: r0).toArray⟩) (.int .i64 k) 45; rw [World.size_alloc] at h; exact h
            case c2 => exact one3 _ _ _
            case c3 => unfold maxLen; omega
            case c4 => omega
            case c5 => have := hb.size; simp; omega
            intro v' w3 hown' hgrow _
            have c3 : w3.cell? ⟨wr.heap.size, 1, none⟩ = some (.string ⟨(c0 :: r0).toArray⟩) := hgrow.cell (by simp [go_sem]) (Ne.symm hneB.out)
            have hsm := skip_le false (s.drop (k + n))
            have hlen1 := hlen.out
            simp only [List.length_cons] at hlen1
            have hlen2 : ((r0.length : Int) + 1) = n := by omega
            clear hlen1
            simp only [List.length_drop] at hsm
            replace hown' := Lib.hid hown'
            have hB3 := Lib.hid ((hb.alloc hb.size (Obj.cells #[.int .i64 2, .string ⟨(c0 :: r0).toArray⟩, .int .i64 k] 45)).alloc (by have := hb.size; simp; omega) (Obj.cells #[.int .i64 2, .string ⟨(c0 :: r0).toArray⟩, .int .i64 k] 45) |>.grown hgrow (by have := hb.size; simp; omega) (fun g hg => (hown.lt g hg).1))
            clear hgrow
            go_wp2_with fail
            (with_reducible refine (separated_any _ _ (by simp only [List.length_drop]; omega)).mono ?_); rintro e w1 ⟨rfl, rfl⟩
            go_wp2_with fail
            go_roundw
            case rel => exact ⟨k + n + skip false (s.drop (k + n)), ts ++ [⟨2, c0 :: r0, k⟩], by omega, by go_num, by rw [tokCells_append, List.length_append]; exact hown'.out, by simp; omega, hB3.out, HG.out.below hB3.out hg0, by have h := skip_idem (s.drop (k + n)) false; rwa [List.drop_drop] at h, by rw [← hr.out, hto.out, scanL_skip, List.drop_drop]⟩
            case measure => simp [intOf]; omega
        · have hwle := runLen_le isWordy (s.drop k)
          have hwpos : 0 < runLen isWordy (s.drop k) := by omega
          have htok := Lib.hid (wordRes_tok hwpos)
          have hm := Lib.hid (show (s.drop k).length ≤ maxLen by simp [maxLen]; omega)
          have hrun := Lib.hid (fun W => run_wordy (s.drop k) hm.out W)
          have hne : s.drop k ≠ [] := by intro e; have := congrArg List.length e; simp at this; omega
          have hlen : (List.take (runLen isWordy (s.drop k)) (s.drop k)).length = runLen isWordy (s.drop k) := by rw [List.length_take]; omega
          have hall := hall
          generalize hn : runLen isWordy (s.drop k) = n at *
          generalize htx : List.take n (s.drop k) = txt at *
          have hdr : Hid (List.drop n (s.drop k) = s.drop (k + n)) := show _ = _ by rw [List.drop_drop]
          have hkn : k + n ≤ s.length := by simp only [List.length_drop] at hwle; omega
          have hne' : Hid (s.drop k ≠ []) := hne
          have hwd := Lib.hid (fun W => word_ne txt (by intro e; rw [e] at hlen; simp at hlen; omega) W (by omega))
          replace hlen := Lib.hid hlen
          replace hn := Lib.hid hn
          clear hw hwle hne
          generalize hwr : wordRes txt = res at *
          have hpl := wordRes_le txt
          rw [hwr, hlen.out] at hpl
          obtain ⟨kd, pl, er⟩ := res
          replace hpl : pl ≤ n := hpl
          have hwv : Hid (wordVal txt = .tuple #[.int .i64 kd, .int .i64 pl, .int .i64 er]) := show _ = _ by rw [wordVal, hwr]
          replace hwr := Lib.hid hwr
          by_cases her : er = 0
          · subst her
            have hto : Hid (scan s = app (ts ++ [⟨kd, txt, k⟩]) (scanL (k + n) (s.drop (k + n)))) := show _ = _ by
              have h1 := htok.out
              simp only [if_true] at h1
              rw [hr.out, hall.out.2, scanL_ok hall.out.1 hne'.out h1, app_app, htx, List.drop_drop]
            obtain ⟨hz0, hz1, hz2⟩ := HZ.out
            have hi := HI.out
            go_wp2_with fail
            (with_reducible refine (hrun.out _).mono ?_); rintro e w1 ⟨rfl, rfl⟩
            go_wp2_with fail
            (with_reducible refine (hwd.out _).mono ?_); rintro e w2 ⟨rfl, hb2⟩
            rw [hwv.out]
            obtain ⟨hc, hf⟩ := bcell hb2
            have hwsz : wr.heap.size < w2.heap.size := by have := hb2.size; simp at this; omega
            have hneB : u5.ownBlock ≠ some wr.heap.size := by intro e; have := hown.lt _ e; omega
            have hown2 := Lib.hid (fun (o : Obj) => (owns_set (o := 0) (owns_below (hown.alloc _) hb2) hneB (.int .i64 kd)).alloc o)
            replace hneB := Lib.hid hneB
            clear htok hwr
            go_wp2_with (at_builtin; refine wpList_append_own _ rfl _ _ 39 rfl w'.heap.size 45 i0 _ 3 32 Tryz.underlying39 hi hz0 hz1 hz2 rfl (by decide) _ _ _ rfl (hown2.out _) ⟨w2.heap.size, 0, none⟩ 1 1 [.int .i64 kd, .string ⟨txt.toArray⟩, .int .i64 k] rfl rfl ?c1 ?c2 ?c3 ?c4 ?c5 ?_)
            case c1 => have h := news3 (w2.setCell ⟨wr.heap.size, 0, none⟩ (.int .i64 kd)) (.int .i64 kd) (.string ⟨txt.toArray⟩) (.int .i64 k) 45; rw [World.size_setCell] at h; exact h
            case c2 => exact one3 _ _ _
            case c3 => unfold maxLen; omega
            case c4 => omega
            case c5 => have := hb.size; simp; omega
            intro v' w3 hown' hgrow _
            have c3 : w3.cell? ⟨wr.heap.size, 1, none⟩ = some (.string ⟨txt.toArray⟩) := hgrow.cell (by simp [go_sem, hc, hwsz]) (Ne.symm hneB.out)
            have hlen1 := hlen.out
            have hsm := skip_le false (s.drop (k + n))
            simp only [List.length_drop] at hsm
            replace hown' := Lib.hid hown'
            have hB3 := Lib.hid (((hb.trans (((Below.refl _ _).alloc hb.size _).trans (hb2.mono (by have := hb.size; simp; omega)))).setCell (p := ⟨wr.heap.size, 0, none⟩) hb.size (.int .i64 kd)).alloc (by have := hb.size; simp; omega) (Obj.cells #[.int .i64 kd, .string ⟨txt.toArray⟩, .int .i64 k] 45) |>.grown hgrow (by have := hb.size; simp; omega) (fun g hg => (hown.lt g hg).1))
            clear hgrow hc hf hb2
            go_wp2_with fail
            (with_reducible refine (separated_any _ _ (by simp only [List.length_drop]; omega)).mono ?_); rintro e w1 ⟨rfl, rfl⟩
            go_wp2_with fail
            go_roundw
            case rel => exact ⟨k + n + skip false (s.drop (k + n)), ts ++ [⟨kd, txt, k⟩], by omega, by go_num, by rw [tokCells_append, List.length_append]; exact hown'.out, by simp; omega, hB3.out, HG.out.below hB3.out hg0, by have h := skip_idem (s.drop (k + n)) false; rwa [List.drop_drop] at h, by rw [← hr.out, hto.out, scanL_skip, List.drop_drop]⟩
            case measure => simp [intOf]; omega
          · have hb0 : ((er : Int) != 0) = true := by rw [bne_iff_ne]; omega
            have hto : Hid (scan s = .error (k + pl, er)) := show _ = _ by
              rw [hr.out]
              have h1 := htok.out
              simp only [her, if_false] at h1
              rw [hall.out.2, scanL_error hall.out.1 hne'.out h1]; rfl
            clear her
            go_wp2_with fail
            (with_reducible refine (hrun.out _).mono ?_); rintro e w1 ⟨rfl, rfl⟩
            go_wp2_with fail
            (with_reducible refine (hwd.out _).mono ?_); rintro e w2 ⟨rfl, hb2⟩
            rw [hwv.out]
            obtain ⟨hc, hf⟩ := bcell hb2
            go_wp2_with fail
            go_ret3
            rw [hto.out]
            exact ⟨hb.trans (((Below.refl _ _).alloc hb.size _).trans (hb2.mono (by have := hb.size; simp; omega))), rfl⟩
      · have hkl : k = s.length := by omega
        have hres : Hid (scan s = .ok (ts ++ [⟨3, [], s.length⟩])) := show _ = _ by
          rw [hr.out, hall.out.2, List.drop_of_length_le (by omega), scanL_nil, hkl]; rfl
        obtain ⟨hz0, hz1, hz2⟩ := HZ.out
        have hi := HI.out
        replace hkl := Lib.hid hkl
        go_wp2_with (at_builtin; refine wpList_append_own _ rfl _ _ 39 rfl w'.heap.size 45 i0 _ 3 32 Tryz.underlying39 hi hz0 hz1 hz2 rfl (by decide) _ _ _ rfl (hown.alloc _) ⟨wr.heap.size, 0, none⟩ 1 1 [.int .i64 3, .string ⟨#[]⟩, .int .i64 s.length] rfl rfl ?c1 ?c2 ?c3 ?c4 ?c5 ?_)
        case c1 => exact news3 _ _ _ _ _
        case c2 => exact one3 _ _ _
        case c3 => unfold maxLen; omega
        case c4 => omega
        case c5 => have := hb.size; simp; omega
        intro v' w1 hown' hgrow _
        go_wp2_with fail
        go_ret3
        rw [hres.out]
        refine ⟨(hb.alloc hb.size _).grown hgrow (by have := hb.size; simp; omega) (fun g hg => (hown.lt g hg).1), v', rfl, ?_⟩
        rw [tokCells_append]
        simpa [tokCells] using hown'
end Go.Proofs.YtplbfmcgddnkeaaGreatDoor
end
section
set_option maxHeartbeats 2000000
set_option maxRecDepth 100000
namespace Go.Proofs.YtplbfmcgddnkeaaGreatDoor
open Go.RowKit
def kwTexts : List (List UInt8) := [[67], [68], [69], [75], [97, 100, 118, 101, 114, 115, 97, 114, 121], [97, 108, 108], [97, 108, 108, 111, 119], [97, 108, 119, 97, 121, 115], [97, 110, 100], [97, 116], [99, 97, 108, 109], [99, 111, 117, 110, 116], [99, 114, 97, 115, 104], [100, 101, 99, 105, 100, 101, 100], [101, 118, 101, 110, 116, 117, 97, 108, 108, 121], [101, 118, 101, 114, 121, 111, 110, 101], [102, 97, 117, 108, 116, 121], [102, 111, 114], [102, 111, 114, 109, 117, 108, 97], [103, 105, 118, 101, 110], [103, 114, 97, 112, 104, 115], [104, 101, 97, 114, 100], [104, 101, 97, 114, 115], [105, 110], [105, 110, 112, 117, 116], [105, 110, 112, 117, 116, 115], [110, 101, 120, 116], [110, 111, 116], [111, 109, 105, 116], [111, 114], [111, 117, 116], [111, 117, 116, 112, 117, 116, 115], [112, 97, 114, 116, 105, 116, 105, 111, 110], [112, 114, 111, 98, 108, 101, 109], [112, 114, 111, 99, 101, 115, 115, 101, 115], [114, 101, 99, 101, 105, 118, 101], [114, 111, 117, 110, 100, 115], [115, 101, 110, 100], [115, 110, 97, 112, 115, 104, 111, 116], [115, 111, 109, 101], [116, 97, 115, 107], [116, 104, 101, 110], [116, 114, 117, 101], [117, 110, 100, 101, 114], [117, 110, 116, 105, 108], [119, 104, 101, 114, 101]]
def kwVals : Array Value := (kwTexts.map fun l => Value.string ⟨l.toArray⟩).toArray
def SpaceAt (w : World) : Prop := Lib.TabIs Tryz.prog w "strings.asciiSpace" .u8 Lib.asciiSpaceTab
theorem SpaceAt.below {w w' : World} (h : SpaceAt w) (hb : Below w.heap.size w w') : SpaceAt w' := by
  unfold SpaceAt Lib.TabIs World.var? at *
  rw [show Tryz.prog.globalNamed "strings.asciiSpace" = some 4 from by kernel_rfl] at *
  simp only [Option.bind_some] at *
  have : 4 < w.heap.size := by
    rcases Nat.lt_or_ge 4 w.heap.size with h' | h'
    · exact h'
    · simp [Array.getElem?_eq_none h'] at h
  rw [hb.block _ this]; exact h
def kwSrc : List UInt8 := [67, 32, 68, 32, 69, 32, 75, 32, 97, 100, 118, 101, 114, 115, 97, 114, 121, 32, 97, 108, 108, 32, 97, 108, 108, 111, 119, 32, 97, 108, 119, 97, 121, 115, 32, 97, 110, 100, 32, 97, 116, 32, 99, 97, 108, 109, 32, 99, 111, 117, 110, 116, 32, 99, 114, 97, 115, 104, 32, 100, 101, 99, 105, 100, 101, 100, 32, 101, 118, 101, 110, 116, 117, 97, 108, 108, 121, 32, 101, 118, 101, 114, 121, 111, 110, 101, 32, 102, 97, 117, 108, 116, 121, 32, 102, 111, 114, 32, 102, 111, 114, 109, 117, 108, 97, 32, 103, 105, 118, 101, 110, 32, 103, 114, 97, 112, 104, 115, 32, 104, 101, 97, 114, 100, 32, 104, 101, 97, 114, 115, 32, 105, 110, 32, 105, 110, 112, 117, 116, 32, 105, 110, 112, 117, 116, 115, 32, 110, 101, 120, 116, 32, 110, 111, 116, 32, 111, 109, 105, 116, 32, 111, 114, 32, 111, 117, 116, 32, 111, 117, 116, 112, 117, 116, 115, 32, 112, 97, 114, 116, 105, 116, 105, 111, 110, 32, 112, 114, 111, 98, 108, 101, 109, 32, 112, 114, 111, 99, 101, 115, 115, 101, 115, 32, 114, 101, 99, 101, 105, 118, 101, 32, 114, 111, 117, 110, 100, 115, 32, 115, 101, 110, 100, 32, 115, 110, 97, 112, 115, 104, 111, 116, 32, 115, 111, 109, 101, 32, 116, 97, 115, 107, 32, 116, 104, 101, 110, 32, 116, 114, 117, 101, 32, 117, 110, 100, 101, 114, 32, 117, 110, 116, 105, 108, 32, 119, 104, 101, 114, 101]
theorem kw_fields : Lib.fields kwSrc = kwTexts := by kernel_rfl
theorem kw_ascii : kwSrc.all (fun b => decide (b.toNat < 128)) = true := by decide +kernel
theorem keywords_any (w : World) (hsp : SpaceAt w) :
    Calls Tryz.prog 175 #[] w fun e w' => e = .returned (.slice (some ⟨w.heap.size, 0, none⟩) 46 46) ∧ w' = w.alloc (.cells kwVals 9) := by
  have hF : Hid (Calls Tryz.prog 197 #[.string ⟨kwSrc.toArray⟩] w fun e w' => e = .returned (.slice (some ⟨w.heap.size, 0, none⟩) 46 46) ∧ w' = w.alloc (.cells kwVals 9)) := by
    have h := Tryz.strings_Fields ⟨kwSrc.toArray⟩ w (by rw [ba_size]; decide) (fun j b hj => by
      have := List.all_eq_true.1 kw_ascii b (List.mem_of_getElem? hj)
      simpa using this) hsp
    rw [kw_fields] at h
    exact h
  replace hsp := Lib.hid hsp
  go_enter Tryz.func175, Tryz.ntmps175
  go_wp2_with fail
  refine (hF.out).mono ?_
  rintro e w1 ⟨rfl, rfl⟩
  go_wp2_with fail
  go_ret
  exact ⟨rfl, rfl⟩
def kwBA : List ByteArray := kwTexts.map fun l => ⟨l.toArray⟩
def reservedB (s : List UInt8) : Bool := decide (s ∈ kwTexts)
theorem contains_kw (s : List UInt8) : Lib.containsS (kwBA.take 46) ⟨s.toArray⟩ = reservedB s := by
  rw [Bool.eq_iff_iff, Lib.containsS_iff, reservedB, decide_eq_true_eq]
  have : kwBA.take 46 = kwBA := by kernel_rfl
  rw [this, kwBA, List.mem_map]
  constructor
  · rintro ⟨l, hl, e⟩
    have : l = s := by simpa using e
    rw [← this]; exact hl
  · intro h; exact ⟨s, h, rfl⟩
theorem kw_cells (w : World) : ∀ j, j < kwBA.length → (w.alloc (.cells kwVals 9)).cell? ⟨w.heap.size, 0 + j, none⟩ = some (.string (kwBA.getD j ByteArray.empty)) := by
  intro j hj
  rw [World.cell?, heap_alloc_new, Nat.zero_add]
  have hj' : j < kwTexts.length := by simpa [kwBA] using hj
  simp [kwVals, kwBA, List.getD, hj']
theorem reserved_any (s : List UInt8) (w : World) (hsp : SpaceAt w) :
    Calls Tryz.prog 143 #[.string ⟨s.toArray⟩] w fun e w' => e = .returned (.bool (reservedB s)) ∧ Below w.heap.size w w' := by
  have hK := Lib.hid (keywords_any w hsp)
  have hc := Lib.hid (Tryz.slices_Contains_string w.heap.size 0 46 46 kwBA ⟨s.toArray⟩ (w.alloc (.cells kwVals 9)) (by decide) (by omega) (kw_cells w))
  replace hsp := Lib.hid hsp
  go_enter Tryz.func143, Tryz.ntmps143
  go_wp2_with fail
  (with_reducible refine (hK.out).mono ?_); rintro e w1 ⟨rfl, rfl⟩
  go_wp2_with fail
  (with_reducible refine (hc.out).mono ?_); rintro e w1 ⟨rfl, rfl⟩
  rw [contains_kw]
  go_wp2_with fail
  go_ret
  exact ⟨rfl, (Below.refl _ _).alloc (Nat.le_refl _) _⟩
end Go.Proofs.YtplbfmcgddnkeaaGreatDoor
end
section
namespace Go.Proofs.YtplbfmcgddnkeaaGreatDoor
abbrev kThen : List UInt8 := [116, 104, 101, 110]
abbrev kUntil : List UInt8 := [117, 110, 116, 105, 108]
abbrev kCount : List UInt8 := [99, 111, 117, 110, 116]
abbrev kAll : List UInt8 := [97, 108, 108]
abbrev kSome : List UInt8 := [115, 111, 109, 101]
abbrev kIn : List UInt8 := [105, 110]
abbrev kOut : List UInt8 := [111, 117, 116]
abbrev kHears : List UInt8 := [104, 101, 97, 114, 115]
abbrev kSnap : List UInt8 := [115, 110, 97, 112, 115, 104, 111, 116]
abbrev kGraphs : List UInt8 := [103, 114, 97, 112, 104, 115]
abbrev kTrue : List UInt8 := [116, 114, 117, 101]
abbrev kEvery : List UInt8 := [101, 118, 101, 114, 121, 111, 110, 101]
abbrev cmps : List (List UInt8) := [[61], [33, 61], [60], [60, 61]]
abbrev sums : List (List UInt8) := [[43], [45]]
abbrev schs : List (List UInt8) := [[99, 114, 97, 115, 104], [115, 101, 110, 100], [114, 101, 99, 101, 105, 118, 101], [111, 109, 105, 116], [112, 97, 114, 116, 105, 116, 105, 111, 110]]
abbrev fone : List (List UInt8) := [[103, 105, 118, 101, 110], [102, 97, 117, 108, 116, 121], [97, 116]]
abbrev ftwo : List (List UInt8) := [[105, 110, 112, 117, 116], [104, 101, 97, 114, 100], [100, 101, 99, 105, 100, 101, 100]]
abbrev fset : List (List UInt8) := [[69], [68], [67]]
abbrev ftim : List (List UInt8) := [[110, 101, 120, 116], [97, 108, 119, 97, 121, 115], [101, 118, 101, 110, 116, 117, 97, 108, 108, 121]]
def opP (k : Nat) (t : List UInt8) : Option (Nat × Nat × Nat) :=
  if k = 0 then if t = kOr then some (0, 0, 1) else if t = kAnd then some (1, 1, 2) else if t ∈ cmps then some (3, 4, 4) else if t ∈ sums then some (4, 4, 5) else none
  else if k = 1 then if t = kOr then some (0, 0, 1) else if t = kAnd then some (1, 1, 2) else if t = kThen then some (2, 3, 2) else none
  else if t = kUntil then some (0, 1, 0) else if t = kOr then some (1, 1, 2) else if t = kAnd then some (2, 2, 3) else none
def own (k : Nat) (t : List UInt8) : Nat := ((opP k t).getD (0, 0, 0)).1
def lft (k : Nat) (t : List UInt8) : Nat := ((opP k t).getD (0, 0, 0)).2.1
def rgt (k : Nat) (t : List UInt8) : Nat := ((opP k t).getD (0, 0, 0)).2.2
def lvl (k : Nat) (t : Syn) : Nat := if t.kind = 11 then own k t.text else if k = 0 ∧ (t.kind = 12 ∨ t.kind = 13 ∧ t.text ≠ kCount) then 2 else 5
def natB (n : Int) : Bool := decide (0 ≤ n) && decide (n ≤ 1048576)
def nameB (s : List UInt8) : Bool := formedB 0 s && !reservedB s
def isNum (t : Syn) : Bool := decide (t.kind = 9) && (t.text == []) && natB t.num && t.kids.isEmpty
def isNm (t : Syn) : Bool := decide (t.kind = 8) && decide (t.num = 0) && t.kids.isEmpty && nameB t.text
def isSet (t : Syn) : Bool := decide (t.kind = 14) && decide (t.num = 0) && ((t.text == kEvery && t.kids.isEmpty) || (t.text == [] && t.kids.all isNum))
def okc : Syn → Bool
  | .mk k t n p [] => isNum (.mk k t n p []) || isNm (.mk k t n p [])
  | .mk k t n _ [a] => (decide (k = 12) && (t == []) && decide (n = 0) && okc a) || (decide (k = 10) && decide (n = 0) && (t == kIn || t == kOut) && okc a)
  | .mk k t n _ [a, b] => (decide (k = 13) && (t == kAll || t == kSome || t == kCount) && decide (n = 0) && isNm a && okc b) ||
      (decide (k = 10) && decide (n = 0) && (t == kHears) && okc a && okc b) || (decide (k = 11) && decide (n = 0) && (opP 0 t).isSome && okc a && okc b)
  | _ => false
def oks : Syn → Bool
  | .mk k t n p [] => isNm (.mk k t n p []) || (decide (k = 10) && decide (n = 0) && (t == kSnap))
  | .mk k t n _ [a] => decide (k = 10) && decide (n = 0) && ((t == kGraphs && okc a) || (schs.contains t && isNum a))
  | .mk k t n _ [a, b] => decide (k = 11) && (opP 1 t).isSome && (if t = kThen then natB n else decide (n = 0)) && oks a && oks b
  | _ => false
def okf : Syn → Bool
  | .mk k t n _ [] => decide (k = 10) && decide (n = 0) && (t == kTrue)
  | .mk k t n _ [a] => (decide (k = 12) && (t == []) && decide (n = 0) && okf a) || (decide (k = 10) && decide (n = 0) && ((fone.contains t && isNum a) || (ftim.contains t && okf a)))
  | .mk k t n _ [a, b] => (decide (k = 10) && decide (n = 0) && ((ftwo.contains t && isNum a && isNum b) || (t == [75] && isNum a && okf b) || (fset.contains t && isSet a && okf b))) ||
      (decide (k = 11) && decide (n = 0) && (opP 2 t).isSome && okf a && okf b)
  | _ => false
def opn : Syn → Bool
  | .mk k t _ _ [a] => if k = 13 then t != kCount else decide (k = 12) && decide (2 ≤ lvl 0 a) && opn a
  | .mk k t _ _ [_, b] => if k = 13 then t != kCount else decide (k = 11) && decide (rgt 0 t ≤ lvl 0 b) && opn b
  | .mk k t _ _ _ => decide (k = 13) && t != kCount
def decGo : Nat → Nat → List UInt8 → List UInt8
  | 0, _, l => l
  | f + 1, n, l => if n < 10 then UInt8.ofNat (48 + n) :: l else decGo f (n / 10) (UInt8.ofNat (48 + n % 10) :: l)
def dec (n : Nat) : List UInt8 := decGo (n + 1) n []
def par (b : Bool) (s : List UInt8) : List UInt8 := if b then 40 :: (s ++ [41]) else s
def looseB (t : List UInt8) (a : Syn) : Bool := (t == kOr || t == kAnd) && opn a
def wrc : Syn → List UInt8
  | .mk k t n _ [] => if k = 9 then dec n.toNat else t
  | .mk k t _ _ [a] => if k = 12 then kNot ++ 32 :: par (decide (lvl 0 a < 2)) (wrc a) else t ++ 40 :: (par (decide (lvl 0 a < 4)) (wrc a) ++ [41])
  | .mk k t _ _ [a, b] =>
    if k = 13 then if t = kCount then t ++ 32 :: (a.text ++ 32 :: par true (wrc b)) else t ++ 32 :: (a.text ++ 58 :: 32 :: wrc b)
    else if k = 10 then t ++ 40 :: (par (decide (lvl 0 a < 4)) (wrc a) ++ 44 :: 32 :: (par (decide (lvl 0 b < 4)) (wrc b) ++ [41]))
    else par (looseB t a || decide (lvl 0 a < lft 0 t)) (wrc a) ++ 32 :: (t ++ 32 :: par (decide (lvl 0 b < rgt 0 t)) (wrc b))
  | _ => []
def wrs : Syn → List UInt8
  | .mk _ t _ _ [] => t
  | .mk _ t _ _ [a] => t ++ 40 :: (wrc a ++ [41])
  | .mk _ t n _ [a, b] => par (decide (lvl 1 a < lft 1 t)) (wrs a) ++ 32 :: (t ++ 32 :: ((if t = kThen then dec n.toNat ++ [32] else []) ++ par (decide (lvl 1 b < rgt 1 t)) (wrs b)))
  | _ => []
def commas : List (List UInt8) → List UInt8
  | [] => []
  | [x] => x
  | x :: y :: r => x ++ 44 :: 32 :: commas (y :: r)
def wset (t : Syn) : List UInt8 := if t.text = [] then 123 :: (commas (t.kids.map fun x => dec x.num.toNat) ++ [125]) else t.text
def warg (t : Syn) : List UInt8 := if t.kind = 9 then dec t.num.toNat else wset t
def wrf : Syn → List UInt8
  | .mk _ t _ _ [] => t
  | .mk k t _ _ [a] => if k = 12 then kNot ++ 32 :: par (decide (lvl 2 a < 3)) (wrf a) else if fone.contains t then t ++ 40 :: (warg a ++ [41]) else t ++ 40 :: (wrf a ++ [41])
  | .mk k t _ _ [a, b] =>
    if k = 10 then if ftwo.contains t then t ++ 40 :: (warg a ++ 44 :: 32 :: (warg b ++ [41])) else t ++ 40 :: (warg a ++ 44 :: 32 :: (wrf b ++ [41]))
    else par (decide (lvl 2 a < lft 2 t)) (wrf a) ++ 32 :: (t ++ 32 :: par (decide (lvl 2 b < rgt 2 t)) (wrf b))
  | _ => []
def partB (k : Int) (t : Syn) : Bool := decide (t.kind = k) && (t.text == []) && decide (t.num = 0) && (match t.kids with | [a] => okc a | _ => false)
def taskB (l : List Syn) : Bool :=
  match l with
  | [] => false
  | a :: l => isNum a &&
    let l' := match l with | b :: r => if b.kind = 2 then if partB 2 b then some r else none else some l | [] => some []
    match l' with
    | none => false
    | some [] => false
    | some [b] => partB 3 b
    | some [b, c] => partB 3 b && partB 4 c
    | some (_ :: _ :: _ :: _) => false
def declB (t : Syn) : Bool :=
  nameB t.text && natB t.num &&
  (if t.kind = 1 then taskB t.kids
  else if t.kind = 5 then decide (t.num = 0) && (match t.kids with | [a] => oks a | _ => false)
  else if t.kind = 6 then decide (t.num = 0) && (match t.kids with | [a] => okf a | _ => false)
  else if t.kind = 7 then (match t.kids with | [a, b] => isNm a && isNm b | _ => false)
  else false)
def progB (t : Syn) : Bool := decide (t.kind = 0) && (t.text == []) && natB t.num && t.kids.all declB
abbrev kTask : List UInt8 := [116, 97, 115, 107]
abbrev kAdv : List UInt8 := [97, 100, 118, 101, 114, 115, 97, 114, 121]
abbrev kFormula : List UInt8 := [102, 111, 114, 109, 117, 108, 97]
abbrev kProblem : List UInt8 := [112, 114, 111, 98, 108, 101, 109]
abbrev kWhere : List UInt8 := [119, 104, 101, 114, 101]
abbrev kAllow : List UInt8 := [97, 108, 108, 111, 119]
abbrev kCalm : List UInt8 := [99, 97, 108, 109]
abbrev kInputs : List UInt8 := [105, 110, 112, 117, 116, 115]
abbrev kOutputs : List UInt8 := [111, 117, 116, 112, 117, 116, 115]
abbrev kUnder : List UInt8 := [117, 110, 100, 101, 114]
abbrev kRounds : List UInt8 := [114, 111, 117, 110, 100, 115]
abbrev kProcesses : List UInt8 := [112, 114, 111, 99, 101, 115, 115, 101, 115]
def kid0 (t : Syn) : Syn := t.kids.headD synNil
def kid1 (t : Syn) : Syn := (t.kids.drop 1).headD synNil
def wpart (t : Syn) : List UInt8 := 32 :: ((if t.kind = 2 then kWhere else if t.kind = 3 then kAllow else kCalm) ++ 32 :: wrc (kid0 t))
def wdecl (t : Syn) : List UInt8 :=
  (if t.kind = 1 then kTask ++ 32 :: (t.text ++ 32 :: (kInputs ++ 32 :: (dec t.num.toNat ++ 32 :: (kOutputs ++ 32 :: (dec (kid0 t).num.toNat ++ (t.kids.drop 1).flatMap wpart)))))
  else if t.kind = 5 then kAdv ++ 32 :: (t.text ++ 32 :: 61 :: 32 :: wrs (kid0 t))
  else if t.kind = 6 then kFormula ++ 32 :: (t.text ++ 32 :: 61 :: 32 :: wrf (kid0 t))
  else kProblem ++ 32 :: (t.text ++ 32 :: 61 :: 32 :: ((kid0 t).text ++ 32 :: (kUnder ++ 32 :: ((kid1 t).text ++ 32 :: (kRounds ++ 32 :: dec t.num.toNat)))))) ++ [59, 10]
def wprog (t : Syn) : List UInt8 := kProcesses ++ 32 :: (dec t.num.toNat ++ 59 :: 10 :: t.kids.flatMap wdecl)
end Go.Proofs.YtplbfmcgddnkeaaGreatDoor
end
