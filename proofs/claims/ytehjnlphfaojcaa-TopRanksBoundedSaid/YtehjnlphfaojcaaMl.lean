/- Walks: the iterator products (a closure), in rounds of a loop body. -/
import Derived.Test.YtehjnlphfaojcaaMk
import Derived.RangeFuncBox
import Derived.RangeFuncCalls
import Derived.RangeFuncLeaves
import Derived.Shelf.Abstract
import Derived.Shelf.RegionOpen
import Derived.OwnWalkIn
import Derived.TacticsInMore
import Derived.LoopNIn
import Derived.LoopIn
set_option maxHeartbeats 4000000
set_option maxRecDepth 100000
namespace Go.Proofs.Ytehjnlphfaojcaa
open Go.RowKit Go.Shelf
attribute [local go_sem] Oper.semAt_some
theorem mulRow_snoc (b : List (List Int)) (row : List Int) (j : Int) : mulRow b (row ++ [j]) = ssum (mulRow b row) (b.getD j.toNat []) := by
  unfold mulRow
  rw [List.foldl_append]; rfl
/-- What a round keeps: what lay below B, and the two boxes. -/
structure KP (B Ba Bb : Nat) (W W' : World) : Prop where
  below : Below B W W'
  ca : W'.heap[Ba]? = W.heap[Ba]?
  cb : W'.heap[Bb]? = W.heap[Bb]?
theorem KP.trans {B Ba Bb : Nat} {x y z : World} (h : KP B Ba Bb x y) (k : KP B Ba Bb y z) : KP B Ba Bb x z := ⟨h.below.trans k.below, k.ca.trans h.ca, k.cb.trans h.cb⟩
theorem prods_in (nn m : Nat) (a b : List (List Int)) (l Ba Bb base : Nat) (ua ub : Value) (w0 : World) (hbase : base = w0.heap.size) (J : Nat → World → Prop)
    (ha : ∀ r ∈ a, Row b.length r) (hb : ∀ r ∈ b, Row m r) (hla : a.length ≤ 100) (hlb : b.length ≤ 100) (hm : m ≤ 100)
    (hra : RowsAt w0 ua a) (hrb : RowsAt w0 ub b)
    (hJ : ∀ k W W', J k W → Below W.heap.size W W' → J k W')
    (hY : ∀ k (hk : k < a.length) v W, J k W → base ≤ W.heap.size → Vc base W v (mulRow b a[k]) → YieldAt Fence.wide (nn - 1) Try.prog l #[v] W (fun e W' => e = .returned (.bool true) ∧ J (k + 1) W' ∧ KP base Ba Bb W W'))
    (W : World) (hW : Below base w0 W) (hca : W.cell? ⟨Ba, 1, none⟩ = some ua) (hcb : W.cell? ⟨Bb, 1, none⟩ = some ub) (h0 : J 0 W) :
    CallsIn Fence.wide nn Try.prog 20 #[.func (.yield l) #[] #[], .pointer (some ⟨Ba, 0, none⟩), .pointer (some ⟨Bb, 0, none⟩)] W fun e W' => (∃ v, e = .returned v) ∧ J a.length W' := by
  subst hbase
  obtain ⟨pa, cpa, rfl, -, hga⟩ := hra.get
  obtain ⟨pb, cpb, rfl, -, hgb⟩ := hrb.get
  refine callsIn_of_wp Try.func20 rfl trivial ?_ rfl
  simp only [Try.ntmps20, List.size_toArray, List.length_cons, List.length_nil, Nat.reduceAdd, Nat.reduceSub, Array.replicate_succ, Array.replicate_zero, List.push_toArray, List.append_toArray, List.nil_append, List.cons_append]
  gi_wp2
  gi_loopw [12] (fun s12 wr => ∃ k : Nat, s12 = .int .i64 k ∧ k ≤ a.length ∧ J k wr ∧ Below w0.heap.size w0 wr ∧ wr.cell? ⟨Bb, 1, none⟩ = some (.slice pb b.length cpb)) (fun s12 _ => a.length - (intOf s12).toNat)
  case atStart => exact ⟨0, rfl, by omega, h0, hW, hcb⟩
  case round =>
    obtain ⟨k, rfl, hk, hj, hbw, hcw⟩ := hrel
    clear hca hcb
    by_cases hlt : k < a.length
    · obtain ⟨bl, o, x, rfl, hc, hx⟩ := hga k hlt
      have hc' := cell_below hc hbw
      have hrow := ha _ (List.getElem_mem hlt)
      have hrl := hrow.len
      obtain ⟨ax, cx, rfl, -, hgx⟩ := hx.get
      replace hj := Lib.hid hj
      replace hbw := Lib.hid hbw
      gi_wp2
      gi_loopw [6, 18] (fun s6 s18 W2 => ∃ i : Nat, s18 = .int .i64 i ∧ i ≤ a[k].length ∧ Vc w0.heap.size W2 s6 (mulRow b (a[k].take i)) ∧ J k W2 ∧ Below w0.heap.size w0 W2 ∧ W2.cell? ⟨Bb, 1, none⟩ = some (.slice pb b.length cpb)) (fun _ s18 _ => a[k].length - (intOf s18).toNat)
      case atStart => exact ⟨0, rfl, by omega, ⟨IntsAt.nil _, fun b o n c e => by cases e⟩, hj.out, hbw.out, hcw⟩
      case round =>
        obtain ⟨i, rfl, hi, hv, hj2, hb2, hcb2⟩ := hrel
        clear hcw
        by_cases hlt2 : i < a[k].length
        · obtain ⟨b3, o3, rfl, hc3⟩ := hgx i hlt2
          have hc3' := cell_below hc3 hb2
          have hjr := hrow.rng _ (getD_mem hlt2)
          obtain ⟨jj, ejj⟩ : ∃ jj, jj = a[k].getD i 0 := ⟨_, rfl⟩
          rw [← ejj] at hc3' hjr
          have hjl : jj.toNat < b.length := by omega
          obtain ⟨b4, o4, x4, rfl, hc4, hx4⟩ := hgb jj.toNat hjl
          have hc4' := cell_below hc4 hb2
          have hrowb := hb _ (List.getElem_mem hjl)
          have hvb : Vc w0.heap.size _ x4 b[jj.toNat] := (Vc.of_lt hx4 (Nat.le_refl _)).mv (.of_below hb2 (Nat.le_refl _))
          have hlen1 : (mulRow b (a[k].take i)).length ≤ m := ((foldl_row hb (a := a[k].take i) (x := []) ⟨hrow.srt.sublist (List.take_sublist _ _), fun z hz => hrow.rng z (List.mem_of_mem_take hz)⟩ .nil).1).len
          have hlen2 := hrowb.len
          have hS := Lib.hid (vsum_any w0.heap.size _ _ _ _ _ hv hvb (by omega))
          have hmul : ssum (mulRow b (a[k].take i)) b[jj.toNat] = mulRow b (a[k].take (i + 1)) := by
            rw [List.take_succ_eq_append_getElem hlt2, mulRow_snoc]
            congr 1
            have : a[k][i] = jj := by rw [ejj, List.getD_eq_getElem?_getD, List.getElem?_eq_getElem hlt2]; rfl
            rw [this, List.getD_eq_getElem?_getD, List.getElem?_eq_getElem hjl]; rfl
          replace hmul := Lib.hid hmul
          replace ejj := Lib.hid ejj
          replace hj2 := Lib.hid hj2
          replace hb2 := Lib.hid hb2
          clear hc3 hc4
          gi_wp2
          refine ⟨trivial, (fun h => by cases h), (callsIn_wide.2 hS.out).mono ?_⟩
          rintro e w5 ⟨v5, rfl, hv5, hb5⟩
          replace hv5 := Lib.hid hv5
          replace hb5 := Lib.hid hb5
          gi_wp2
          go_roundw
          case rel => exact ⟨i + 1, by go_num, by omega, by rw [← hmul.out]; exact hv5.out, hJ _ _ _ hj2.out hb5.out, hb2.out.trans (hb5.out.mono hb2.out.size), cell_below hcb2 hb5.out⟩
          case measure => simp [intOf]; omega
        · have hii : i = a[k].length := by omega
          have hv' := hv
          rw [hii, List.take_length] at hv'
          obtain ⟨fn, tmps, assign, body, hy, hR⟩ := hY k hlt _ _ hj2 hb2.size hv'
          replace hb2 := Lib.hid hb2
          clear hv hv' hj2
          gi_wp2
          refine ⟨(fun h => by cases h), hR.mono ?_⟩
          rintro e W3 ⟨rfl, hJ3, hk3⟩
          gi_wp2
          go_roundw
          case rel => exact ⟨k + 1, by go_num, by omega, hJ3, hb2.out.trans hk3.below, by rw [← hcb2]; simp only [World.cell?, hk3.cb]⟩
          case measure => simp [intOf]; omega
    · gi_wp2
      go_end0
      have : k = a.length := by omega
      subst this
      exact ⟨⟨_, rfl⟩, hj⟩
end Go.Proofs.Ytehjnlphfaojcaa
