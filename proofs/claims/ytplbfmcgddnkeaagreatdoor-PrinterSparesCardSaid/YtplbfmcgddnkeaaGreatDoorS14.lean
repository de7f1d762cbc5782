/- Joined: Vax, PlainO, PlainC, PlainD, Fwd. -/
import Derived.Handy
import Derived.Test.YtplbfmcgddnkeaaGreatDoorS10
import Derived.Test.YtplbfmcgddnkeaaGreatDoorS11
import Derived.Test.YtplbfmcgddnkeaaGreatDoorS12
import Derived.Test.YtplbfmcgddnkeaaGreatDoorS13
import Derived.Test.YtplbfmcgddnkeaaGreatDoorS01
import Derived.Test.YtplbfmcgddnkeaaGreatDoorS05
set_option linter.unusedVariables false
set_option linter.unusedSimpArgs false
section
set_option maxHeartbeats 1000000
set_option maxRecDepth 100000
namespace Go.Proofs.YtplbfmcgddnkeaaGreatDoor
open Go.RowKit
theorem valid_any : ∀ (m : Nat) (t : Syn), SizeOf.sizeOf t < m → Mod t → ∀ (k : Nat), k ≤ 2 → ∀ (q : Option Addr) (d : Nat) (W : World), SignsAt W → SpaceAt W → KidR W t.kids (.slice q t.kids.length d) →
    Calls Tryz.prog 56 #[.int .i64 k, nodeV t q d] W (VPost W (okP k t)) := by
  intro m
  induction m with
  | zero => intro t h; omega
  | succ m ih =>
    intro t hm hM k hk q d w hg hsp hks
    obtain ⟨kd, tx, n, a, ks⟩ := t
    have hks : KidR w ks (.slice q ks.length d) := hks
    have hl : ks.length ≤ 100000 := hM.len
    have ht : tx.length ≤ 1000000 := hM.text
    have hV : ∀ w', Below w.heap.size w w' → KidsV w' ks := fun w' hb' i hi k hk q d W hb hkk => by
      have h1 := List.sizeOf_lt_of_mem (List.getElem_mem hi)
      simp only [Syn.mk.sizeOf_spec] at hm
      exact ih _ (by omega) (hM.kid _ (List.getElem_mem hi)) k hk q d W (signs_low (signs_low hg hb') hb) ((hsp.below hb').below hb) hkk
    have hV0 := hV w (Below.refl _ _)
    by_cases h8 : kd = 8
    · subst h8; exact vname_any k hk tx n a ks q d w ht hg hsp
    by_cases h9 : kd = 9
    · subst h9; exact vnum_any k hk tx n a ks q d w
    by_cases h11 : kd = 11
    · subst h11; exact vbin_any k hk tx n a ks q d w hl hks (fun i hi => hV0 i hi k hk)
    by_cases h12 : kd = 12
    · subst h12; exact vnot_any k hk tx n a ks q d w hl hks (fun i hi => hV0 i hi k hk)
    by_cases h13 : kd = 13
    · subst h13; exact vquant_any k hk tx n a ks q d w hl (fun z hz => (hM.kid z hz).text) hg hsp hks (fun i hi => hV0 i hi k hk)
    by_cases h10 : kd = 10
    · subst h10
      refine vcall_any k hk tx n a ks q d w (fun W hb => ?_)
      have hkW := hks.low hb
      have hVW := hV W hb
      match k, hk with
      | 0, _ => exact pcall0_any tx n a ks q d W hl hkW hVW
      | 1, _ => exact pcall1_any tx n a ks q d W hl hkW hVW
      | 2, _ =>
        match ks, hM, hkW, hVW with
        | [], _, _, _ => exact pcall2_0 tx n a q d W
        | [x], _, hkW, hVW => exact pcall2_1 tx n a x q d W hkW hVW
        | [x, y], hM, hkW, hVW => exact pcall2_2 tx n a x y q d W (fun z hz => (hM.kid z hz).len) hkW hVW
        | x :: y :: z :: l, _, _, _ => exact pcall2_3 tx n a x y z l q d W
    exact vother_any k kd tx n a ks q d w h8 h9 h10 h11 h12 h13
theorem tree_valid (t : Syn) (hM : Mod t) (k : Nat) (hk : k ≤ 2) (q : Option Addr) (d : Nat) (W : World) (hg : SignsAt W) (hsp : SpaceAt W) (hks : KidR W t.kids (.slice q t.kids.length d)) :
    Calls Tryz.prog 56 #[.int .i64 k, nodeV t q d] W (VPost W (okP k t)) := valid_any _ t (Nat.lt_succ_self _) hM k hk q d W hg hsp hks
end Go.Proofs.YtplbfmcgddnkeaaGreatDoor
end
section
namespace Go.Proofs.YtplbfmcgddnkeaaGreatDoor
def NumTok (t : Tok) : Prop := t.kind = 1 → t.text ≠ [] ∧ (∀ c ∈ t.text, isDigit c.toNat = true) ∧ dv 0 t.text ≤ 1048576
theorem tok_num {l : List UInt8} {n : Nat} (h : tok l = .ok (1, n)) : l.take n ≠ [] ∧ (∀ c ∈ l.take n, isDigit c.toNat = true) ∧ dv 0 (l.take n) ≤ 1048576 := by
  unfold tok at h
  by_cases h1 : runLen isWordy l = 0
  · rw [if_pos h1] at h; split at h <;> simp at h
  rw [if_neg h1] at h
  by_cases h2 : runLen isLetter l = 0
  · rw [if_pos h2] at h
    by_cases h3 : runLen isDigit l < runLen isWordy l
    · rw [if_pos h3] at h; simp at h
    rw [if_neg h3] at h
    by_cases h4 : (valGo 0 (l.take (runLen isWordy l))).isNone = true
    · rw [if_pos h4] at h; simp at h
    rw [if_neg h4] at h
    simp only [Except.ok.injEq, Prod.mk.injEq, true_and] at h
    subst h
    have hle := runLen_le isWordy l
    refine ⟨fun e => ?_, fun c hc => ?_, ?_⟩
    · have : min (runLen isWordy l) l.length = 0 := by rw [← List.length_take, e]; rfl
      omega
    · refine runLen_take_all isDigit l c ?_
      have hm := runLen_le isDigit l
      have : l.take (runLen isWordy l) = (l.take (runLen isDigit l)).take (runLen isWordy l) := by rw [List.take_take, Nat.min_eq_left (by omega)]
      rw [this] at hc
      exact List.mem_of_mem_take hc
    · rw [valGo_eq _ _ (by omega)] at h4
      split at h4
      · assumption
      · simp at h4
  · rw [if_neg h2] at h
    split at h <;> simp at h
theorem scanGo_num (f : Nat) : ∀ (p : Nat) (l : List UInt8) (ts : List Tok), scanGo f p l = .ok ts → ∀ t ∈ ts, NumTok t ∧ t.text.length ≤ l.length := by
  induction f with
  | zero => intro p l ts h; simp [scanGo] at h; subst h; simp
  | succ f ih =>
    intro p l ts h
    simp only [scanGo] at h
    split at h
    · simp only [Except.ok.injEq] at h; subst h
      intro t ht
      rw [List.mem_singleton.1 ht]
      exact ⟨fun h => by simp at h, by simp⟩
    · rename_i c r hd
      have hlen : (c :: r).length ≤ l.length := by rw [← hd]; simp
      split at h
      · simp at h
      · rename_i kind n ht
        split at h
        · simp at h
        · rename_i us hu
          simp only [Except.ok.injEq] at h
          subst h
          intro t hm
          rcases List.mem_cons.1 hm with rfl | hm
          · refine ⟨fun hk => ?_, by rw [List.length_take]; omega⟩
            have hk1 : kind = 1 := by simp only at hk; omega
            subst hk1
            exact tok_num ht
          · obtain ⟨q1, q2⟩ := ih _ _ _ hu t hm
            refine ⟨q1, Nat.le_trans q2 ?_⟩
            rw [List.length_drop]; omega
theorem scanGo_last (f : Nat) : ∀ (p : Nat) (l : List UInt8) (ts : List Tok), l.length < f → scanGo f p l = .ok ts → ∃ a t, ts = a ++ [t] ∧ t.kind = 3 := by
  induction f with
  | zero => intro p l ts hl; omega
  | succ f ih =>
    intro p l ts hl h
    simp only [scanGo] at h
    split at h
    · simp only [Except.ok.injEq] at h; subst h
      exact ⟨[], _, rfl, rfl⟩
    · rename_i c r hd
      have hlen : (c :: r).length ≤ l.length := by rw [← hd]; simp
      split at h
      · simp at h
      · rename_i kind n ht
        have hp := tok_pos ht
        split at h
        · simp at h
        · rename_i us hu
          simp only [Except.ok.injEq] at h
          subst h
          obtain ⟨a, t, rfl, hk⟩ := ih _ _ _ (by rw [List.length_drop]; omega) hu
          exact ⟨_ :: a, t, rfl, hk⟩
end Go.Proofs.YtplbfmcgddnkeaaGreatDoor
end
section
namespace Go.Proofs.YtplbfmcgddnkeaaGreatDoor
theorem scanGo_ne (f : Nat) : ∀ (p : Nat) (l : List UInt8) (ts : List Tok), 0 < f → scanGo f p l = .ok ts → l.length < f → ts ≠ [] := by
  induction f with
  | zero => intro p l ts h; omega
  | succ f ih =>
    intro p l ts _ h hl
    simp only [scanGo] at h
    split at h
    · simp at h; rw [← h]; simp
    · split at h
      · simp at h
      · split at h
        · simp at h
        · simp at h; rw [← h]; simp
def Stand (s : List UInt8) : Nat → List Tok → Prop
  | at0, [] => at0 = s.length
  | at0, t :: r => (t.pos = (at0 + skip false (s.drop at0) : Nat)) ∧ at0 + skip false (s.drop at0) + t.text.length ≤ s.length ∧
      (s.drop (at0 + skip false (s.drop at0))).take t.text.length = t.text ∧ (t.kind = 3 ↔ r = []) ∧ Stand s (at0 + skip false (s.drop at0) + t.text.length) r
theorem tok_kinds {l : List UInt8} {k n : Nat} (h : tok l = .ok (k, n)) : k ≤ 2 := by
  unfold tok at h
  (repeat' split at h) <;> simp at h <;> omega
theorem scanGo_stand (s : List UInt8) (f : Nat) : ∀ (p : Nat) (ts : List Tok), p ≤ s.length → (s.drop p).length < f → scanGo f p (s.drop p) = .ok ts → Stand s p ts := by
  induction f with
  | zero => intro p ts _ h; omega
  | succ f ih =>
    intro p ts hp hf h
    have hk := skip_le false (s.drop p)
    rw [List.length_drop] at hk hf
    simp only [scanGo, List.drop_drop] at h
    split at h
    · rename_i hd
      simp only [Except.ok.injEq] at h
      subst h
      have : s.length ≤ p + skip false (s.drop p) := by
        have := congrArg List.length hd
        rw [List.length_drop, List.length_nil] at this; omega
      refine ⟨rfl, by simp; omega, by simp, by simp, ?_⟩
      simp only [List.length_nil, Nat.add_zero, Stand]; omega
    · rename_i c r hd
      have hlen : (c :: r).length = s.length - (p + skip false (s.drop p)) := by rw [← hd, List.length_drop]
      cases ht : tok (c :: r) with
      | error x => rw [ht] at h; simp at h
      | ok x =>
        obtain ⟨kd, m⟩ := x
        have hm := tok_pos ht
        have hkd := tok_kinds ht
        rw [ht] at h
        simp only [] at h
        rw [← hd, List.drop_drop] at h
        cases hr : scanGo f (p + skip false (s.drop p) + m) (s.drop (p + skip false (s.drop p) + m)) with
        | error x => rw [hr] at h; simp at h
        | ok us =>
          rw [hr] at h
          simp only [Except.ok.injEq] at h
          subst h
          have hu := ih _ _ (by omega) (by rw [List.length_drop]; omega) hr
          have hl : ((s.drop (p + skip false (s.drop p))).take m).length = m := by rw [List.length_take, List.length_drop]; omega
          have hne : us ≠ [] := scanGo_ne _ _ _ _ (by omega) hr (by rw [List.length_drop]; omega)
          refine ⟨rfl, ?_, ?_, ?_, ?_⟩
          · rw [hl]; omega
          · rw [hl]
          · constructor
            · intro e; simp only at e; omega
            · intro e; exact absurd e hne
          · rw [hl]; exact hu
theorem scan_stand {s : List UInt8} {ts : List Tok} (h : scan s = .ok ts) : Stand s 0 ts ∧ ts ≠ [] := by
  unfold scan at h
  split at h
  · simp at h
  · exact ⟨scanGo_stand s (s.length + 1) 0 ts (by omega) (by simp) (by simpa using h), scanGo_ne _ _ _ _ (by omega) h (by omega)⟩
end Go.Proofs.YtplbfmcgddnkeaaGreatDoor
end
section
namespace Go.Proofs.YtplbfmcgddnkeaaGreatDoor
theorem tokClass {x : List UInt8} {k : Nat} (h : tok x = .ok (k, x.length)) : x ≠ [] ∧ ((k ≤ 1 ∧ runLen isWordy x = x.length) ∨ (k = 2 ∧ x ∈ signTexts)) := by
  have hp := tok_pos h
  refine ⟨fun e => by subst e; simp at hp, ?_⟩
  by_cases hw : runLen isWordy x = 0
  · right
    rw [tok_sign hw] at h
    split at h
    · simp at h
    · rename_i hne
      simp only [Except.ok.injEq, Prod.mk.injEq] at h
      refine ⟨h.1.symm, ?_⟩
      rcases firstPrefix_mem signTexts x with e | e
      · exact absurd e hne
      · have hl := h.2
        rw [firstPrefix_signs] at e hl
        have := signLen_le x
        rw [List.length_take] at hl
        rwa [List.take_of_length_le (by omega)] at e
  · left
    have := tok_kind h hw
    have := tok_kinds h
    omega
def fits (x y : List UInt8) : Prop := ∀ c, y.head? = some c → (0 < runLen isWordy x → isWordy c.toNat = false) ∧ ¬ (x = [60] ∧ c = 61)
theorem runLen_mono {p q : Int → Bool} (h : ∀ c, p c = true → q c = true) (l : List UInt8) : runLen p l ≤ runLen q l := by
  induction l with
  | nil => simp [runLen]
  | cons c r ih =>
    simp only [runLen]
    split
    · rename_i hc; rw [if_pos (h _ hc)]; omega
    · omega
theorem runLen_drop (p : Int → Bool) (l : List UInt8) : ∀ c, (l.drop (runLen p l)).head? = some c → p c.toNat = false := by
  induction l with
  | nil => simp [runLen]
  | cons x r ih =>
    intro c
    simp only [runLen]
    split
    · rw [List.drop_succ_cons]; exact ih c
    · rename_i hc
      intro h
      simp at h
      subst h; simpa using hc
theorem tok_cut {s : List UInt8} {k n : Nat} (h : tok s = .ok (k, n)) : tok (s.take n) = .ok (k, (s.take n).length) ∧ fits (s.take n) (s.drop n) := by
  have hp := tok_pos h
  have hl : (s.take n).length = n := by rw [List.length_take]; omega
  by_cases hw : runLen isWordy s = 0
  · have ht := tok_sign hw
    rw [ht] at h
    split at h
    · simp at h
    · rename_i hne
      simp only [Except.ok.injEq, Prod.mk.injEq] at h
      obtain ⟨rfl, hn⟩ := h
      have hm := (firstPrefix_mem signTexts s).resolve_left hne
      have hle := signLen_le s
      have hfp : firstPrefix signTexts s = s.take n := by
        have e := firstPrefix_signs s
        rw [e] at hn ⊢
        rw [List.length_take, Nat.min_eq_left hle] at hn
        rw [hn]
      rw [hfp] at hm
      rw [sign_tok _ hm]
      refine ⟨rfl, fun c hc => ⟨fun h => by rw [sign_run _ hm] at h; omega, ?_⟩⟩
      rintro ⟨e1, rfl⟩
      have e2 : s = 60 :: 61 :: (s.drop n).tail := by
        have e3 := (List.take_append_drop n s).symm
        rw [e1] at e3
        match hd : s.drop n, hc with
        | c :: r, hc =>
          simp at hc; subst hc
          rw [hd] at e3
          rw [e3]; rfl
      have : signLen s = 2 := by rw [e2]; rfl
      rw [e1] at hl
      have e := firstPrefix_signs s
      rw [e, List.length_take, this] at hn
      simp at hl
      omega
  · have hk := tok_kind h hw
    have hn := hk.2.2
    have h1 := runLen_take_of (p := isWordy) (l := s) hp.2
    have h2 := runLen_take_of (p := isLetter) (l := s) hp.2
    have h3 := runLen_take_of (p := isDigit) (l := s) hp.2
    have m2 := runLen_mono (p := isLetter) (q := isWordy) (by intro c; unfold isWordy; simp; intro h; exact .inl h) s
    have m3 := runLen_mono (p := isDigit) (q := isWordy) (by intro c; unfold isWordy; simp; intro h; exact .inr h) s
    have e4 : (s.take n).take (runLen isWordy s) = s.take (runLen isWordy s) := by rw [List.take_take, hn, Nat.min_self]
    constructor
    · rw [hl, ← h]
      unfold tok
      rw [h1, h2, h3, hn, Nat.min_self, Nat.min_eq_right m2, Nat.min_eq_right m3, if_neg hw, if_neg hw, ← hn, List.take_take, Nat.min_self]
    · intro c hc
      rw [hn] at hc ⊢
      have := runLen_drop isWordy s c hc
      refine ⟨fun _ => this, ?_⟩
      rintro ⟨e1, _⟩
      have := runLen_take_all isWordy s 60 (by rw [e1]; simp)
      exact absurd this (by decide)
def Good : List Tok → Prop
  | [] => False
  | t :: r => (t.kind = 3 ∧ t.text = [] ∧ r = []) ∨ ((∃ k : Nat, t.kind = k ∧ tok t.text = .ok (k, t.text.length)) ∧ Good r)
theorem scanGo_good (f : Nat) : ∀ (p : Nat) (l : List UInt8) (ts : List Tok), l.length < f → scanGo f p l = .ok ts → Good ts ∧ (joinGo none ts).length ≤ l.length ∧ ∀ t0 : Tok, t0.kind ≠ 3 → (∃ k : Nat, t0.kind = k ∧ tok t0.text = .ok (k, t0.text.length)) → fits t0.text l → (joinGo (some t0) ts).length ≤ l.length := by
  induction f with
  | zero => intro p l ts h; omega
  | succ f ih =>
    intro p l ts hf h
    have hk := skip_le false l
    simp only [scanGo] at h
    split at h
    · simp only [Except.ok.injEq] at h
      subst h
      refine ⟨.inl ⟨rfl, rfl, rfl⟩, by simp [joinGo], fun t0 _ _ _ => ?_⟩
      simp [joinGo, gap, wordlyB]
    · rename_i c r hd
      have hlen : (c :: r).length = l.length - skip false l := by rw [← hd, List.length_drop]
      cases ht : tok (c :: r) with
      | error x => rw [ht] at h; simp at h
      | ok x =>
        obtain ⟨kd, n⟩ := x
        have hn := tok_pos ht
        have hkd := tok_kinds ht
        have hcut := tok_cut ht
        rw [ht] at h
        simp only [] at h
        cases hr : scanGo f (p + skip false l + n) ((c :: r).drop n) with
        | error x => rw [hr] at h; simp at h
        | ok us =>
          rw [hr] at h
          simp only [Except.ok.injEq] at h
          subst h
          obtain ⟨g, _, hj⟩ := ih _ _ _ (by rw [List.length_drop]; omega) hr
          have hl : ((c :: r).take n).length = n := by rw [List.length_take]; omega
          have hJ := hj ⟨kd, (c :: r).take n, ((p + skip false l : Nat) : Int)⟩ (by simp only; omega) ⟨kd, rfl, hcut.1⟩ hcut.2
          rw [List.length_drop] at hJ
          refine ⟨.inr ⟨⟨kd, rfl, hcut.1⟩, g⟩, ?_, ?_⟩
          · simp only [joinGo, List.length_append, hl]; omega
          · intro t0 h3 hk0 hfit
            have hfm := formed_wordly (kind := (kd : Int)) (s := (c :: r).take n) (by rw [← refText_eq, refTextB, if_neg (by omega), if_neg (tokClass hcut.1).1, hcut.1]; simp) (by omega) (by omega)
            obtain ⟨k0, hk0e, hk0t⟩ := hk0
            have hk02 := tok_kinds hk0t
            have hf0 := formed_wordly (kind := t0.kind) (s := t0.text) (by rw [← refText_eq, refTextB, if_neg h3, if_neg (tokClass hk0t).1, hk0t]; simp [hk0e]) (by omega) (by omega)
            have hg : skip false l = 0 → gap t0 ⟨kd, (c :: r).take n, ((p + skip false l : Nat) : Int)⟩ = false := by
              intro h0
              rw [h0, List.drop_zero] at hd
              have hc := hfit c (by rw [hd]; rfl)
              unfold gap
              simp only
              rw [← hf0, ← hfm]
              rw [Bool.or_eq_false_iff, Bool.and_eq_false_iff, Bool.and_eq_false_iff]
              constructor
              · by_cases hw : 0 < runLen isWordy t0.text
                · right
                  have := hc.1 hw
                  rw [decide_eq_false_iff_not]
                  match n, hn with
                  | n + 1, _ => rw [List.take_succ_cons, runLen, if_neg (by rw [this]; simp)]; omega
                · left; simpa using hw
              · by_cases hw : t0.text = [60]
                · right
                  rw [decide_eq_false_iff_not]
                  intro e
                  match n, hn with
                  | n + 1, _ =>
                    rw [List.take_succ_cons] at e
                    simp only [List.cons.injEq] at e
                    exact hc.2 ⟨hw, e.1⟩
                · left; simpa using hw
            simp only [joinGo, List.length_append, hl]
            by_cases h0 : skip false l = 0
            · rw [hg h0]
              simp only [Bool.false_eq_true, if_false, List.length_nil]; omega
            · have : (if gap t0 ⟨kd, (c :: r).take n, ((p + skip false l : Nat) : Int)⟩ then [32] else ([] : List UInt8)).length ≤ 1 := by split <;> simp
              omega
theorem good_errs (ts : List Tok) : Good ts → joinErrs ts = 0 := by
  induction ts with
  | nil => intro h; exact absurd h (by simp [Good])
  | cons t r ih =>
    intro h
    rw [joinErrs]
    rcases h with ⟨h3, hx, rfl⟩ | ⟨⟨k, hk, ht⟩, hr⟩
    · have : errTok ([] : List Tok).isEmpty t = 0 := by
        unfold errTok
        rw [if_neg (by omega), h3, hx]; rfl
      rw [if_pos this]; rfl
    · have h2 := tok_kinds ht
      have hf : formedB t.kind t.text = true := by rw [← refText_eq, refTextB, if_neg (by omega), if_neg (tokClass ht).1, ht]; simp [hk]
      have : errTok r.isEmpty t = 0 := by
        unfold errTok
        rw [if_neg (by omega), if_neg (by rw [hf]; simp), if_neg (by omega)]
      rw [if_pos this]
      exact ih hr
theorem tok_err {l : List UInt8} {d e : Nat} (h : tok l = .error (d, e)) : 0 < e := by
  unfold tok at h
  (repeat' split at h) <;> simp at h <;> omega
theorem scanGo_err (f : Nat) : ∀ (p : Nat) (l : List UInt8) (d e : Nat), scanGo f p l = .error (d, e) → 0 < e := by
  induction f with
  | zero => intro p l d e h; simp [scanGo] at h
  | succ f ih =>
    intro p l d e h
    simp only [scanGo] at h
    split at h
    · simp at h
    · split at h
      · rename_i ht
        simp only [Except.error.injEq, Prod.mk.injEq] at h
        have := tok_err ht
        omega
      · split at h
        · rename_i x hx
          simp only [Except.error.injEq] at h
          subst h
          exact ih _ _ _ _ hx
        · simp at h
theorem scan_err {l : List UInt8} {d e : Nat} (h : scan l = .error (d, e)) : 0 < e := by
  unfold scan at h
  split at h
  · simp only [Except.error.injEq, Prod.mk.injEq] at h; omega
  · exact scanGo_err _ _ _ _ _ h
end Go.Proofs.YtplbfmcgddnkeaaGreatDoor
end
section
namespace Go.Proofs.YtplbfmcgddnkeaaGreatDoor
def On {α : Type} (T : List Tok) (i : Nat) (o : Out α) : Prop := ∀ a j, o = .ok a j → i < j ∧ j < T.length
def On0 {α : Type} (T : List Tok) (i : Nat) (o : Out α) : Prop := ∀ a j, o = .ok a j → i ≤ j ∧ j < T.length
section
variable {T : List Tok} {i lv : Nat} (hl : (tk T (T.length - 1)).kind = 3) {res : List UInt8 → Bool}
theorem nx_on (hl : (tk T (T.length - 1)).kind = 3) (hi : i < T.length) (hk : (tk T i).kind ≠ 3) : nx T i = i + 1 ∧ i + 1 < T.length := by
  have : i + 1 < T.length := by
    rcases Nat.lt_or_ge (i + 1) T.length with h | h
    · exact h
    · have : i = T.length - 1 := by omega
      subst this; exact absurd hl hk
  exact ⟨if_pos this, this⟩
theorem isW_kind {ws : List (List UInt8)} (h : isW T ws i = true) : (tk T i).kind ≠ 3 := by
  intro e
  unfold isW at h
  rw [e] at h
  simp at h
theorem On.bind {α β : Type} {o : Out α} {f : α → Nat → Out β} (h : On T i o) (hf : ∀ a j, i < j → j < T.length → On0 T j (f a j)) : On T i (o.bind f) := by
  cases o with
  | none => intro b j e; cases e
  | err p e => intro b j e; cases e
  | ok a k =>
    obtain ⟨h1, h2⟩ := h a k rfl
    intro b j e
    obtain ⟨h3, h4⟩ := hf a k h1 h2 b j e
    exact ⟨by omega, h4⟩
theorem On.zero {α : Type} {o : Out α} (h : On T i o) : On0 T i o := fun a j e => ⟨Nat.le_of_lt (h a j e).1, (h a j e).2⟩
theorem On0.bind {α β : Type} {o : Out α} {f : α → Nat → Out β} (h : On0 T i o) (hf : ∀ a j, i ≤ j → j < T.length → On0 T j (f a j)) : On0 T i (o.bind f) := by
  cases o with
  | none => intro b j e; cases e
  | err p e => intro b j e; cases e
  | ok a k =>
    obtain ⟨h1, h2⟩ := h a k rfl
    intro b j e
    obtain ⟨h3, h4⟩ := hf a k h1 h2 b j e
    exact ⟨by omega, h4⟩
theorem On0.ok {α : Type} {a : α} (hi : i < T.length) : On0 T i (.ok a i) := fun b j e => by cases e; exact ⟨Nat.le_refl _, hi⟩
theorem On.step {α : Type} {a : α} (hl : (tk T (T.length - 1)).kind = 3) (hi : i < T.length) (hk : (tk T i).kind ≠ 3) : On T i (.ok a (nx T i)) := fun b j e => by
  obtain ⟨h1, h2⟩ := nx_on hl hi hk
  cases e; omega
theorem On.fail {α : Type} (e : Nat) : On T i (fail T e i : Out α) := fun _ _ e => by cases e
theorem need_on (hl : (tk T (T.length - 1)).kind = 3) (s : List UInt8) (hi : i < T.length) : On T i (need T s i) := by
  unfold need
  split
  · rename_i h; exact On.step hl hi (isW_kind h)
  · exact On.fail _
theorem name_on (hl : (tk T (T.length - 1)).kind = 3) (hi : i < T.length) : On T i (name res T i) := by
  unfold name
  split
  · exact On.fail _
  · rename_i h
    refine On.step hl hi fun e => h (.inl ?_)
    rw [e]; decide
theorem number_on (hl : (tk T (T.length - 1)).kind = 3) (hi : i < T.length) : On T i (number T i) := by
  unfold number
  split
  · exact On.fail _
  · rename_i h
    refine On.step hl hi fun e => h ?_
    rw [e]; decide
theorem On.behind {α : Type} {o : Out α} (hl : (tk T (T.length - 1)).kind = 3) (hi : i < T.length) (hk : (tk T i).kind ≠ 3) (h : ∀ j, i < j → j < T.length → nx T i = j → On0 T j o) : On T i o := fun a j e => by
  obtain ⟨h1, h2⟩ := nx_on hl hi hk
  obtain ⟨h3, h4⟩ := h (i + 1) (by omega) h2 h1 a j e
  exact ⟨by omega, h4⟩
def OnR (T : List Tok) (r : Rd) : Prop := ∀ lv i, i < T.length → On T i (r lv i)
theorem within_on {r : Rd} (hr : OnR T r) (hi : i < T.length) : On T i (within T r lv i) := by
  unfold within
  split
  · exact On.fail _
  · exact hr _ _ hi
theorem parens_on {r : Rd} (hl : (tk T (T.length - 1)).kind = 3) (hr : OnR T r) (hi : i < T.length) : On T i (parens T r lv i) :=
  (need_on hl _ hi).bind fun _ _ _ h => ((within_on hr h).bind fun _ _ _ h => ((need_on hl _ h).bind fun _ _ _ h => On0.ok h).zero).zero
theorem argsMore_on {rs : List Rd} (hl : (tk T (T.length - 1)).kind = 3) (hr : ∀ r ∈ rs, OnR T r) : ∀ i, i < T.length → On0 T i (argsGo.argsMore T rs lv i) := by
  induction rs with
  | nil => intro i hi; exact On0.ok hi
  | cons r rs ih =>
    intro i hi
    exact ((need_on hl _ hi).bind fun _ _ _ h => ((hr r (List.mem_cons_self ..) _ _ h).bind fun _ _ _ h => (ih (fun r h => hr r (List.mem_cons_of_mem _ h)) _ h).bind fun _ _ _ h => On0.ok h).zero).zero
theorem argsGo_on {rs : List Rd} (hl : (tk T (T.length - 1)).kind = 3) (hr : ∀ r ∈ rs, OnR T r) (hi : i < T.length) : On0 T i (argsGo T rs lv i) := by
  cases rs with
  | nil => exact On0.ok hi
  | cons r rs => exact ((hr r (List.mem_cons_self ..) _ _ hi).bind fun _ _ _ h => (argsMore_on hl (fun r h => hr r (List.mem_cons_of_mem _ h)) _ h).bind fun _ _ _ h => On0.ok h).zero
theorem arguments_on {rs : List Rd} {w : Tok} (hl : (tk T (T.length - 1)).kind = 3) (hr : ∀ r ∈ rs, OnR T r) (hi : i < T.length) : On T i (arguments T w rs lv i) :=
  (need_on hl _ hi).bind fun _ _ _ h => by
    split
    · exact (On.fail _).zero
    · exact (argsGo_on hl hr h).bind fun _ _ _ h => ((need_on hl _ h).bind fun _ _ _ h => On0.ok h).zero
theorem leftLoop_on {r : Rd} {ops : List (List UInt8)} (hl : (tk T (T.length - 1)).kind = 3) (hr : OnR T r) (g : Nat) : ∀ x i, i < T.length → On0 T i (leftLoop T r ops lv g x i) := by
  induction g with
  | zero => intro x i _ a j e; cases e
  | succ g ih =>
    intro x i hi
    unfold leftLoop
    split
    · rename_i h
      refine (On.behind hl hi (isW_kind h) fun j h1 h2 e => ?_).zero
      rw [e]
      exact ((hr _ _ h2).bind fun _ _ _ h => ih _ _ h).zero
    · exact On0.ok hi
theorem left_on {r : Rd} {ops : List (List UInt8)} (hl : (tk T (T.length - 1)).kind = 3) (hr : OnR T r) : OnR T (left T r ops) := fun _ _ hi => (hr _ _ hi).bind fun _ _ _ h => leftLoop_on hl hr _ _ _ h
theorem setLoop_on (hl : (tk T (T.length - 1)).kind = 3) (g : Nat) : ∀ xs i, i < T.length → On0 T i (setLoop T g xs i) := by
  induction g with
  | zero => intro x i _ a j e; cases e
  | succ g ih =>
    intro x i hi
    unfold setLoop
    split
    · rename_i h
      refine (On.behind hl hi (isW_kind h) fun j h1 h2 e => ?_).zero
      rw [e]
      exact ((number_on hl h2).bind fun _ _ _ h => ih _ _ h).zero
    · exact On0.ok hi
theorem setR_on (hl : (tk T (T.length - 1)).kind = 3) (hi : i < T.length) : On T i (setR T i) := by
  unfold setR
  split
  · rename_i h; exact On.step hl hi (isW_kind h)
  · refine (need_on hl _ hi).bind fun _ j _ hj => ?_
    split
    · rename_i h; exact (On.step hl hj (isW_kind h)).zero
    · exact ((number_on hl hj).bind fun _ _ _ h => (setLoop_on hl _ _ _ h).bind fun _ _ _ h => ((need_on hl _ h).bind fun _ _ _ h => On0.ok h).zero).zero
theorem notR_on {r : Rd} (hl : (tk T (T.length - 1)).kind = 3) (hr : OnR T r) (hi : i < T.length) (hk : (tk T i).kind ≠ 3) : On T i (notR T r lv i) :=
  On.behind hl hi hk fun j _ h2 e => by
    unfold notR
    rw [e]
    exact ((within_on hr h2).bind fun _ _ _ h => On0.ok h).zero
theorem rd_on (hl : (tk T (T.length - 1)).kind = 3) (f : Nat) : ∀ nt, OnR T (rd res T f nt) := by
  induction f with
  | zero => intro nt lv i _ a j e; cases e
  | succ f ih =>
    intro nt
    cases nt with
    | cond => exact left_on hl (ih _)
    | conj => exact left_on hl (ih _)
    | sum => exact left_on hl (ih _)
    | scheme => exact left_on hl (ih _)
    | term => exact left_on hl (ih _)
    | disj => exact left_on hl (ih _)
    | meet => exact left_on hl (ih _)
    | neg =>
      intro lv i hi
      show On T i (if _ then _ else if _ then _ else _)
      split
      · rename_i h; exact notR_on hl (ih _) hi (isW_kind h)
      · split
        · rename_i h
          refine On.behind hl hi (isW_kind h) fun j _ h2 e => ?_
          rw [e]
          exact ((name_on hl h2).bind fun _ _ _ h => ((need_on hl _ h).bind fun _ _ _ h => ((within_on (ih _) h).bind fun _ _ _ h => On0.ok h).zero).zero).zero
        · refine (ih .sum lv i hi).bind fun x j _ hj => ?_
          split
          · rename_i h
            refine (On.behind hl hj (isW_kind h) fun k _ h2 e => ?_).zero
            rw [e]
            exact ((ih .sum lv _ h2).bind fun _ _ _ h => On0.ok h).zero
          · exact On0.ok hj
    | unit =>
      intro lv i hi
      show On T i (if _ then _ else if _ then _ else if _ then _ else if _ then _ else if _ then _ else _)
      split
      · exact number_on hl hi
      · split
        · rename_i h
          refine On.behind hl hi (isW_kind h) fun j _ h2 e => ?_
          rw [e]
          exact (arguments_on hl (fun r hr => by rw [List.mem_singleton.1 hr]; exact ih _) h2).zero
        · split
          · rename_i h
            refine On.behind hl hi (isW_kind h) fun j _ h2 e => ?_
            rw [e]
            exact (arguments_on hl (fun r hr => by simp only [List.mem_cons, List.not_mem_nil, or_false, or_self] at hr; rw [hr]; exact ih _) h2).zero
          · split
            · rename_i h
              refine On.behind hl hi (isW_kind h) fun j _ h2 e => ?_
              rw [e]
              exact ((name_on hl h2).bind fun _ _ _ h => ((parens_on hl (ih _) h).bind fun _ _ _ h => On0.ok h).zero).zero
            · split
              · exact parens_on hl (ih _) hi
              · exact name_on hl hi
    | factor =>
      intro lv i hi
      refine (ih .atom lv i hi).bind fun x j _ hj => ?_
      split
      · rename_i h
        refine (On.behind hl hj (isW_kind h) fun k _ h2 e => ?_).zero
        rw [e]
        exact ((number_on hl h2).bind fun _ _ _ h => ((within_on (ih _) h).bind fun _ _ _ h => On0.ok h).zero).zero
      · exact On0.ok hj
    | atom =>
      intro lv i hi
      show On T i (if _ then _ else if _ then _ else if _ then _ else if _ then _ else _)
      split
      · rename_i h
        refine On.behind hl hi (isW_kind h) fun j _ h2 e => ?_
        rw [e]
        exact (arguments_on hl (fun r hr => by rw [List.mem_singleton.1 hr]; exact fun _ _ h => number_on hl h) h2).zero
      · split
        · rename_i h; exact On.step hl hi (isW_kind h)
        · split
          · rename_i h
            refine On.behind hl hi (isW_kind h) fun j _ h2 e => ?_
            rw [e]
            exact (arguments_on hl (fun r hr => by rw [List.mem_singleton.1 hr]; exact ih _) h2).zero
          · split
            · exact parens_on hl (ih _) hi
            · exact name_on hl hi
    | formula =>
      intro lv i hi
      refine (ih .disj lv i hi).bind fun x j _ hj => ?_
      split
      · rename_i h
        refine (On.behind hl hj (isW_kind h) fun k _ h2 e => ?_).zero
        rw [e]
        exact ((within_on (ih _) h2).bind fun _ _ _ h => On0.ok h).zero
      · exact On0.ok hj
    | lit =>
      intro lv i hi
      show On T i (if _ then _ else if _ then _ else if _ then _ else if _ then _ else if _ then _ else if _ then _ else if _ then _ else if _ then _ else _)
      have hargs : ∀ rs, isW T rs i = true → ∀ rds : List Rd, (∀ r ∈ rds, OnR T r) → On T i (arguments T (tk T i) rds lv (nx T i)) := fun rs h rds hr =>
        On.behind hl hi (isW_kind h) fun j _ h2 e => by rw [e]; exact (arguments_on hl hr h2).zero
      have hnum : OnR T (fun _ => number T) := fun _ _ h => number_on hl h
      have hset : OnR T (fun _ => setR T) := fun _ _ h => setR_on hl h
      split
      · rename_i h; exact notR_on hl (ih _) hi (isW_kind h)
      · split
        · rename_i h; exact On.step hl hi (isW_kind h)
        · split
          · exact parens_on hl (ih _) hi
          · split
            · rename_i h; exact hargs _ h _ fun r hr => by simp only [List.mem_cons, List.not_mem_nil, or_false, or_self] at hr; rw [hr]; exact hnum
            · split
              · rename_i h; exact hargs _ h _ fun r hr => by rw [List.mem_singleton.1 hr]; exact hnum
              · split
                · rename_i h; exact hargs _ h _ fun r hr => by
                    simp only [List.mem_cons, List.not_mem_nil, or_false] at hr
                    rcases hr with rfl | rfl
                    · exact hnum
                    · exact ih _
                · split
                  · rename_i h; exact hargs _ h _ fun r hr => by
                      simp only [List.mem_cons, List.not_mem_nil, or_false] at hr
                      rcases hr with rfl | rfl
                      · exact hset
                      · exact ih _
                  · split
                    · rename_i h; exact hargs _ h _ fun r hr => by rw [List.mem_singleton.1 hr]; exact ih _
                    · exact On.fail _
end
end Go.Proofs.YtplbfmcgddnkeaaGreatDoor
end
