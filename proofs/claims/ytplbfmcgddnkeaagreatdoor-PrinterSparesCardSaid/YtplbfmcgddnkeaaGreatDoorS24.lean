/- Joined: Pn. -/
import Derived.Test.YtplbfmcgddnkeaaGreatDoorS22
import Derived.Test.YtplbfmcgddnkeaaGreatDoorS23
import Derived.Test.YtplbfmcgddnkeaaGreatDoorS10
set_option linter.unusedVariables false
set_option linter.unusedSimpArgs false
section
set_option maxHeartbeats 4000000
set_option maxRecDepth 100000
namespace Go.Proofs.YtplbfmcgddnkeaaGreatDoor
open Go.RowKit
theorem isNum_kind {x : Syn} (h : isNum x = true) : x.kind = 9 := by unfold isNum at h; simp only [Bool.and_eq_true, decide_eq_true_eq] at h; exact h.1.1.1
theorem isSet_kind {x : Syn} (h : isSet x = true) : x.kind = 14 := by unfold isSet at h; simp only [Bool.and_eq_true, decide_eq_true_eq] at h; exact h.1.1
theorem okf_kind {x : Syn} (h : okf x = true) : x.kind = 10 ∨ x.kind = 11 ∨ x.kind = 12 := by
  rcases x with ⟨kd, tx, n, p, _ | ⟨a, _ | ⟨b, _ | ⟨c, l⟩⟩⟩⟩ <;> simp only [okf, Bool.or_eq_true, Bool.and_eq_true, decide_eq_true_eq, Syn.kind] at h ⊢
  · exact Or.inl h.1.1
  · rcases h with h | h
    · exact Or.inr (Or.inr h.1.1.1)
    · exact Or.inl h.1.1
  · rcases h with h | h
    · exact Or.inl h.1.1
    · exact Or.inr (Or.inl h.1.1.1.1)
  · cases h
theorem wrN2_num {x : Syn} (h : isNum x = true) : wrN 2 x = warg x := by simp [wrN, isNum_kind h]
theorem wrN2_set {x : Syn} (h : isSet x = true) : wrN 2 x = warg x := by simp [wrN, isSet_kind h]
theorem wrN2_f {x : Syn} (h : okf x = true) : wrN 2 x = wrf x := by
  rcases okf_kind h with e | e | e <;> simp [wrN, e]
theorem wrN0 (x : Syn) : wrN 0 x = wrc x := rfl
theorem wrN1 (x : Syn) : wrN 1 x = wrs x := rfl
theorem ok2 {x : Syn} (h : okf x = true) : NodeOk 2 x := Or.inl h
theorem ok2n {x : Syn} (h : isNum x = true) : NodeOk 2 x := Or.inr ⟨rfl, Or.inl h⟩
theorem ok2s {x : Syn} (h : isSet x = true) : NodeOk 2 x := Or.inr ⟨rfl, Or.inr h⟩
theorem ok0 {x : Syn} (h : okc x = true) : NodeOk 0 x := Or.inl h
theorem fone_not {t : List UInt8} (h : ftim.contains t = true) : fone.contains t = false := by
  have e := List.contains_iff_mem.1 h
  simp only [List.mem_cons, List.not_mem_nil, or_false] at e
  rcases e with rfl | rfl | rfl <;> decide
theorem ftwo_not {t : List UInt8} (h : t = [75] ∨ fset.contains t = true) : ftwo.contains t = false := by
  rcases h with rfl | h
  · decide
  · have e := List.contains_iff_mem.1 h
    simp only [List.mem_cons, List.not_mem_nil, or_false] at e
    rcases e with rfl | rfl | rfl <;> decide
theorem call_ok {k : Nat} (hk : k ≤ 2) {tx : List UInt8} {n a : Int} {ks : List Syn} (h : okP k (.mk 10 tx n a ks) = true) : wrN k (.mk 10 tx n a ks) = wrCall k tx ks ∧ ∀ z ∈ ks, NodeOk (if k = 2 then 2 else 0) z := by
  match k, hk with
  | 0, _ =>
    have h : okc (.mk 10 tx n a ks) = true := h
    rcases ks with _ | ⟨x, _ | ⟨y, _ | ⟨z, l⟩⟩⟩
    · simp [okc, isNum_ne, isNm_ne] at h
    · have hx : okc x = true := by simp [okc] at h; exact h.2
      refine ⟨?_, fun z hz => by rw [List.mem_singleton.1 hz]; exact ok0 hx⟩
      rw [wrN0, wrc, if_neg (by decide)]
      simp [wrCall, commas, wrA, wrN0]
    · have hxy : okc x = true ∧ okc y = true := by simp [okc] at h; exact ⟨h.1.2, h.2⟩
      refine ⟨?_, fun z hz => ?_⟩
      · rw [wrN0, wrc, if_neg (by decide), if_pos rfl]
        simp [wrCall, commas, wrA, wrN0]
      · rcases List.mem_cons.1 hz with rfl | hz
        · exact ok0 hxy.1
        · rw [List.mem_singleton.1 hz]; exact ok0 hxy.2
    · simp [okc] at h
  | 1, _ =>
    have h : oks (.mk 10 tx n a ks) = true := h
    rcases ks with _ | ⟨x, _ | ⟨y, _ | ⟨z, l⟩⟩⟩
    · exact ⟨by simp [wrN1, wrs, wrCall], fun z hz => (List.not_mem_nil hz).elim⟩
    · have hx : okc x = true := by
        simp only [oks, Bool.and_eq_true, Bool.or_eq_true] at h
        rcases h.2 with h | h
        · exact h.2
        · exact okc_numW h.2
      refine ⟨?_, fun z hz => by rw [List.mem_singleton.1 hz]; exact ok0 hx⟩
      rw [wrN1, wrs]
      simp [wrCall, commas, wrA, wrN0]
    · simp [oks] at h
    · simp [oks] at h
  | 2, _ =>
    have h : okf (.mk 10 tx n a ks) = true := h
    rcases ks with _ | ⟨x, _ | ⟨y, _ | ⟨z, l⟩⟩⟩
    · exact ⟨by simp [wrN, wrf, wrCall, Syn.kind], fun z hz => (List.not_mem_nil hz).elim⟩
    · have e : wrN 2 (.mk 10 tx n a [x]) = wrf (.mk 10 tx n a [x]) := by simp [wrN, Syn.kind]
      rw [e, wrf, if_neg (by decide)]
      simp only [okf, Bool.or_eq_true, Bool.and_eq_true, decide_eq_true_eq] at h
      have h : fone.contains tx = true ∧ isNum x = true ∨ ftim.contains tx = true ∧ okf x = true := by
        rcases h with h | h
        · exact absurd h.1.1.1 (by decide)
        · exact h.2
      rcases h with h | h
      · refine ⟨?_, fun z hz => by rw [List.mem_singleton.1 hz]; exact ok2n h.2⟩
        rw [if_pos h.1]
        simp [wrCall, commas, wrA, wrN2_num h.2]
      · refine ⟨?_, fun z hz => by rw [List.mem_singleton.1 hz]; exact ok2 h.2⟩
        rw [if_neg (by rw [fone_not h.1]; decide)]
        simp [wrCall, commas, wrA, wrN2_f h.2]
    · have e : wrN 2 (.mk 10 tx n a [x, y]) = wrf (.mk 10 tx n a [x, y]) := by simp [wrN, Syn.kind]
      rw [e, wrf, if_pos rfl]
      simp only [okf, Bool.or_eq_true, Bool.and_eq_true, decide_eq_true_eq] at h
      have h : ((ftwo.contains tx = true ∧ isNum x = true) ∧ isNum y = true ∨ ((tx == [75]) = true ∧ isNum x = true) ∧ okf y = true) ∨ (fset.contains tx = true ∧ isSet x = true) ∧ okf y = true := by
        rcases h with h | h
        · exact h.2
        · exact absurd h.1.1.1.1 (by decide)
      have two : ∀ {p r : Syn} {K : Nat}, NodeOk K p → NodeOk K r → ∀ z ∈ [p, r], NodeOk K z := fun hp hr z hz => by
        rcases List.mem_cons.1 hz with rfl | hz
        · exact hp
        · rw [List.mem_singleton.1 hz]; exact hr
      rcases h with (h | h) | h
      · refine ⟨?_, two (ok2n h.1.2) (ok2n h.2)⟩
        rw [if_pos h.1.1]
        simp [wrCall, commas, wrA, wrN2_num h.1.2, wrN2_num h.2]
      · have e : tx = [75] := by simpa using h.1.1
        refine ⟨?_, two (ok2n h.1.2) (ok2 h.2)⟩
        rw [if_neg (by rw [ftwo_not (Or.inl e)]; decide)]
        simp [wrCall, commas, wrA, wrN2_num h.1.2, wrN2_f h.2]
      · refine ⟨?_, two (ok2s h.1.2) (ok2 h.2)⟩
        rw [if_neg (by rw [ftwo_not (Or.inr h.1.1)]; decide)]
        simp [wrCall, commas, wrA, wrN2_set h.1.2, wrN2_f h.2]
    · simp [okf] at h
theorem bin_ok {k : Nat} (hk : k ≤ 2) {tx : List UInt8} {n a : Int} {ks : List Syn} (h : okP k (.mk 11 tx n a ks) = true) : ∃ x y, ks = [x, y] ∧ okP k x = true ∧ okP k y = true ∧ (tx = kThen → natB n = true) ∧ wrN k (.mk 11 tx n a [x, y]) = wrB k tx n x y := by
  match k, hk with
  | 0, _ =>
    have h : okc (.mk 11 tx n a ks) = true := h
    rcases ks with _ | ⟨x, _ | ⟨y, _ | ⟨z, l⟩⟩⟩
    · simp [okc, isNum_ne, isNm_ne] at h
    · simp [okc] at h
    · simp [okc] at h
      have ht : tx ≠ kThen := fun e => by rw [e, opP0_then] at h; simp at h
      refine ⟨x, y, rfl, h.1.2, h.2, fun e => absurd e ht, ?_⟩
      rw [wrN0, wrc, if_neg (by decide), if_neg (by decide), wrB, if_neg ht]
      simp [loose, looseB, wrN0]
    · simp [okc] at h
  | 1, _ =>
    have h : oks (.mk 11 tx n a ks) = true := h
    rcases ks with _ | ⟨x, _ | ⟨y, _ | ⟨z, l⟩⟩⟩
    · simp [oks, isNm_ne] at h
    · simp [oks] at h
    · simp only [oks, Bool.and_eq_true, decide_eq_true_eq] at h
      refine ⟨x, y, rfl, h.1.2, h.2, fun e => by have := h.1.1.2; rw [if_pos e] at this; exact this, ?_⟩
      rw [wrN1, wrs, wrB]
      simp [loose, wrN1]
    · simp [oks] at h
  | 2, _ =>
    have h : okf (.mk 11 tx n a ks) = true := h
    rcases ks with _ | ⟨x, _ | ⟨y, _ | ⟨z, l⟩⟩⟩
    · simp [okf] at h
    · simp [okf] at h
    · simp [okf] at h
      have ht : tx ≠ kThen := fun e => by rw [e, opP2_then] at h; simp at h
      refine ⟨x, y, rfl, h.1.2, h.2, fun e => absurd e ht, ?_⟩
      have e : wrN 2 (.mk 11 tx n a [x, y]) = wrf (.mk 11 tx n a [x, y]) := by simp [wrN, Syn.kind]
      rw [e, wrf, if_neg (by decide), wrB, if_neg ht]
      simp [loose, wrN2_f h.1.2, wrN2_f h.2]
    · simp [okf] at h
theorem node_any {w0 : World} (ht : TabW w0) (B b : Nat) : ∀ (m : Nat) (t : Syn), SizeOf.sizeOf t < m → Mod t → ∀ (k : Nat), k ≤ 2 → NodeOk k t → ∀ (q : Option Addr) (d : Nat), KidR w0 t.kids (.slice q t.kids.length d) → NodeC w0 B b k t q d := by
  intro m
  induction m with
  | zero => intro t h; omega
  | succ m ih =>
    intro t hm hM k hk ho q d hks w1 l W hst hlen
    obtain ⟨kd, tx, n, a, ks⟩ := t
    have hks : KidR w0 ks (.slice q ks.length d) := hks
    have hl : ks.length ≤ 100000 := hM.len
    simp only [Syn.mk.sizeOf_spec] at hm
    have hK : ∀ z ∈ ks, ∀ k', k' ≤ 2 → NodeOk k' z → ∀ q d, KidR w0 z.kids (.slice q z.kids.length d) → NodeC w0 B b k' z q d := fun z hz k' hk' ho' q d hkz => by
      have h1 := List.sizeOf_lt_of_mem hz
      exact ih z (by omega) (hM.kid z hz) k' hk' ho' q d hkz
    have fin : ∀ {s : List UInt8}, wrN k (.mk kd tx n a ks) = s → Calls Tryz.prog 57 #[.pointer (some ⟨b, 0, none⟩), .int .i64 k, (Value.agg #[.int .i64 kd, .string ⟨List.toArray tx⟩, .int .i64 n, .int .i64 a, .slice q ks.length d])] W (WPost w0 W B b (l ++ s)) →
        Calls Tryz.prog 57 #[.pointer (some ⟨b, 0, none⟩), .int .i64 k, nodeV (.mk kd tx n a ks) q d] W fun e w' => e = .returned (.tuple #[]) ∧ WSt w0 w1 B b (l ++ wrN k (.mk kd tx n a ks)) w' := fun {s} he hc => by
      rw [he]
      refine hc.mono ?_
      rintro e w' ⟨h1, h2⟩
      exact ⟨h1, hst.call h2⟩
    have hne : k ≠ 2 → okP k (.mk kd tx n a ks) = true := fun h => by
      rcases ho with h' | ⟨h', -⟩
      · exact h'
      · exact absurd h' h
    by_cases h9 : kd = 9
    · subst h9
      have hn : isNum (.mk 9 tx n a ks) = true := by
        rcases ho with h | ⟨-, h | h⟩
        · rw [okP_num hk rfl] at h
          exact (Bool.and_eq_true _ _ ▸ h).2
        · exact h
        · simp [isSet, Syn.kind] at h
      have hnk : ks = [] := by unfold isNum at hn; simp [Syn.kids] at hn; exact hn.2
      have hnn : natB n = true := by unfold isNum at hn; simp only [Bool.and_eq_true] at hn; exact hn.1.2
      have e : wrN k (.mk 9 tx n a ks) = dec n.toNat := by
        subst hnk
        match k, hk with
        | 0, _ => simp [wrN0, wrc]
        | 1, _ =>
          have h := hne (by decide)
          rw [okP_num (by decide) rfl] at h
          simp at h
        | 2, _ => simp [wrN, Syn.kind, warg, Syn.num]
      rw [e] at hlen
      exact fin e (nnum_any k tx n a q ks.length d w0 W B b l hst.fresh ht hnn hlen)
    by_cases h8 : kd = 8
    · subst h8
      have h2 : k ≠ 2 := fun e => by
        subst e
        rcases ho with h | ⟨-, h | h⟩
        · rw [okP_name (by decide) rfl] at h; simp at h
        · simp [isNum, Syn.kind] at h
        · simp [isSet, Syn.kind] at h
      have h := hne h2
      rw [okP_name hk rfl] at h
      have hn := (Bool.and_eq_true _ _ ▸ h).2
      have hnk : ks = [] := by unfold isNm at hn; simp [Syn.kids] at hn; exact hn.1.2
      have e : wrN k (.mk 8 tx n a ks) = tx := by
        subst hnk
        match k, hk with
        | 0, _ => simp [wrN0, wrc]
        | 1, _ => simp [wrN1, wrs]
        | 2, _ => exact absurd rfl h2
      rw [e] at hlen
      exact fin e (nname_any k tx n a q ks.length d w0 W B b l hst.fresh hlen)
    by_cases h14 : kd = 14
    · subst h14
      have h2 : k = 2 ∧ isSet (.mk 14 tx n a ks) = true := by
        rcases ho with h | ⟨h', h | h⟩
        · rw [okP_other (t := .mk 14 tx n a ks) (by simp [Syn.kind]) (by simp [Syn.kind]) (by simp [Syn.kind]) (by simp [Syn.kind]) (by simp [Syn.kind]) (by simp [Syn.kind])] at h; simp at h
        · simp [isNum, Syn.kind] at h
        · exact ⟨h', h⟩
      obtain ⟨rfl, hs⟩ := h2
      have hs' : (tx = kEvery ∧ ks = []) ∨ (tx = [] ∧ ks.all isNum = true) := by
        unfold isSet at hs
        simp [Syn.text, Syn.kids] at hs
        rcases hs.2 with h | h
        · exact Or.inl h
        · exact Or.inr ⟨h.1, by rw [List.all_eq_true]; exact h.2⟩
      have hall : ∀ z ∈ ks, isNum z = true := fun z hz => by
        rcases hs' with h | h
        · rw [h.2] at hz; exact (List.not_mem_nil hz).elim
        · exact List.all_eq_true.1 h.2 z hz
      have e : wrN 2 (.mk 14 tx n a ks) = if tx = [] then [123] ++ (commas (ks.map (wrN 2)) ++ [125]) else tx := by
        have e2 : ks.map (wrN 2) = ks.map fun x => dec x.num.toNat := List.map_congr_left fun z hz => by
          rw [wrN2_num (hall z hz)]; simp [warg, isNum_kind (hall z hz)]
        rw [e2, show wrN 2 (.mk 14 tx n a ks) = wset (.mk 14 tx n a ks) from by simp [wrN, Syn.kind, warg]]
        unfold wset
        by_cases ht0 : tx = [] <;> simp [Syn.text, Syn.kids, ht0]
      rw [e] at hlen
      exact fin e (nset_any 2 tx n a ks q d w0 W B b l hst.fresh hks hl (fun i hi q d hkk => hK _ (List.getElem_mem hi) 2 (by omega) (ok2n (hall _ (List.getElem_mem hi))) q d hkk) hlen)
    have hok : okP k (.mk kd tx n a ks) = true := by
      rcases ho with h | ⟨-, h | h⟩
      · exact h
      · exact absurd (isNum_kind h) h9
      · exact absurd (isSet_kind h) h14
    by_cases h10 : kd = 10
    · subst h10
      obtain ⟨e, hz⟩ := call_ok hk hok
      rw [e] at hlen
      exact fin e (ncall_any k hk tx n a ks q d w0 W B b l hst.fresh hks hl (fun i hi q d hkk => hK _ (List.getElem_mem hi) _ (by split <;> omega) (hz _ (List.getElem_mem hi)) q d hkk) hlen)
    by_cases h11 : kd = 11
    · subst h11
      obtain ⟨x, y, rfl, hx, hy, hnt, e⟩ := bin_ok hk hok
      rw [e] at hlen
      exact fin e (nbin_any k hk tx n a x y q d w0 W B b l hst.fresh ht hnt hks (fun h0 => by subst h0; exact hx) (fun q d hkk => hK x (by simp) k hk (Or.inl hx) q d hkk) (fun q d hkk => hK y (by simp) k hk (Or.inl hy) q d hkk) hlen)
    by_cases h12 : kd = 12
    · subst h12
      have h := hok
      rw [okP_not hk rfl] at h
      simp only [Bool.and_eq_true, decide_eq_true_eq] at h
      have h1 : k ≠ 1 := h.1.1.1
      obtain ⟨x, rfl⟩ := List.length_eq_one_iff.1 (show ks.length = 1 from h.1.2)
      have hx : okP k x = true := h.2
      match k, hk, h1 with
      | 0, _, _ =>
        have e : wrN 0 (.mk 12 tx n a [x]) = [110, 111, 116, 32] ++ par (decide (lvl 0 x < 2)) (wrN 0 x) := by
          rw [wrN0, wrc, if_pos rfl, wrN0]; rfl
        rw [e] at hlen
        exact fin e (nnot_0 tx n a x q d w0 W B b l hst.fresh hks (fun q d hkk => hK x (by simp) 0 (by omega) (Or.inl hx) q d hkk) hlen)
      | 2, _, _ =>
        have hx' : okf x = true := hx
        have e : wrN 2 (.mk 12 tx n a [x]) = [110, 111, 116, 32] ++ par (decide (lvl 2 x < 3)) (wrN 2 x) := by
          rw [wrN2_f hx']
          have e : wrN 2 (.mk 12 tx n a [x]) = wrf (.mk 12 tx n a [x]) := by simp [wrN, Syn.kind]
          rw [e, wrf, if_pos rfl]; rfl
        rw [e] at hlen
        exact fin e (nnot_2 tx n a x q d w0 W B b l hst.fresh hks (fun q d hkk => hK x (by simp) 2 (by omega) (Or.inl hx) q d hkk) hlen)
    by_cases h13 : kd = 13
    · subst h13
      have h := hok
      rw [okP_quant hk rfl] at h
      simp only [Bool.and_eq_true, decide_eq_true_eq] at h
      obtain ⟨⟨⟨⟨⟨rfl, -⟩, -⟩, h2⟩, -⟩, h3⟩ := h
      obtain ⟨v, x, rfl⟩ : ∃ v x, ks = [v, x] := by
        match ks, (show ks.length = 2 from h2) with
        | [v, x], _ => exact ⟨v, x, rfl⟩
      have hx : okP 0 x = true := h3
      have e : wrN 0 (.mk 13 tx n a [v, x]) = tx ++ ([32] ++ (v.text ++ (if tx = kCount then [32] ++ par true (wrN 0 x) else [58, 32] ++ wrN 0 x))) := by
        rw [wrN0, wrc, if_pos rfl, wrN0]
        split <;> simp
      rw [e] at hlen
      exact fin e (nquant_any tx n a v x q d w0 W B b l hst.fresh hks (fun q d hkk => hK x (by simp) 0 (by omega) (Or.inl hx) q d hkk) hlen)
    · rw [okP_other (t := .mk kd tx n a ks) h8 h9 h10 h11 h12 h13] at hok
      cases hok
theorem tree_node {w0 : World} (ht : TabW w0) (B b : Nat) (t : Syn) (hM : Mod t) (k : Nat) (hk : k ≤ 2) (ho : NodeOk k t) (q : Option Addr) (d : Nat) (hks : KidR w0 t.kids (.slice q t.kids.length d)) : NodeC w0 B b k t q d :=
  node_any ht B b _ t (Nat.lt_succ_self _) hM k hk ho q d hks
end Go.Proofs.YtplbfmcgddnkeaaGreatDoor
end
