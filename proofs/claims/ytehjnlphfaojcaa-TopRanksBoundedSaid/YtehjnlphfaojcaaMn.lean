/- A range over the iterator products: the law of the statement, with what the rounds' rows read as. -/
import Derived.Test.YtehjnlphfaojcaaMl
set_option maxHeartbeats 4000000
set_option maxRecDepth 100000
namespace Go.Proofs.Ytehjnlphfaojcaa
open Go.RowKit Go.Shelf
/-- The iterator's contract: N rounds; R k v W: what the k-th value is, in the world in which its round begins. -/
def SeqW (n gf : Nat) (lb : Array Value) (N : Nat) (R : Nat → Value → World → Prop) (Kp : World → World → Prop) (w : World) : Prop :=
  ∀ (l : Nat) (J : Nat → World → Prop) (W : World), Below w.heap.size w W → (∀ k W W', J k W → Below W.heap.size W W' → J k W') →
    (∀ k v W, k < N → J k W → R k v W → YieldAt Fence.wide (n - 1) Try.prog l #[v] W (fun e W' => e = .returned (.bool true) ∧ J (k + 1) W' ∧ Kp W W')) →
    J 0 W → CallsIn Fence.wide n Try.prog gf (#[.func (.yield l) #[] #[]] ++ lb) W fun e W' => (∃ v, e = .returned v) ∧ J N W'
/-- A block that holds no cells is turned. -/
def Turns (P : World → Prop) (B : Nat) : Prop := ∀ (W : World) (l : Nat) (o o' : Obj), B ≤ l → W.heap[l]? = some o → o.isCells = false → P W → P (W.putObj l o')
theorem rangeFunc_rows {g : Operand} {ps : Array Tmp} {assign body : Code} {Q : Exit → Act → World → Prop} {a : Act} {w : World} {n gf N : Nat} {lb : Array Value}
    (hg : a.eval g = .func (.func gf) #[] lb) (eg : ∀ args w, (callFunc gf args).run Try.prog w = .ok (.enter gf args) w) (hps : ps.size = 1)
    (R : Nat → Value → World → Prop) (Kp : World → World → Prop) (hKt : ∀ {A B C : World}, Kp A B → Kp B C → Kp A C) (hKb : ∀ (W : World) (l : Nat) (o o' : Obj), w.heap.size ≤ l → W.heap[l]? = some o → o.isCells = false → Kp W (W.putObj l o')) (hseq : SeqW (n - 1) gf lb N R Kp w) (I : Nat → World → Prop) (hIb : ∀ k W W', I k W → Below W.heap.size W W' → I k W') (hIp : ∀ k, Turns (I k) w.heap.size) (hRp : ∀ k v, Turns (R k v) w.heap.size)
    (h0 : I 0 w) (a₁ : Value → Act)
    (hassign : ∀ (l : Nat) (v : Value) (W : World) (K : Act → World → Prop), K (a₁ v) W →
      assign.wpIn (Fence.wide.inRound l) (n - 1 - 1) Try.prog (Exit.then K (fun _ _ _ => False)) { tmps := (ps.zip #[v]).foldl (fun t (p, v) => t.setIfInBounds p v) a.tmps, defers := [] } W)
    (hbody : ∀ (l k : Nat) (v : Value) (W : World), k < N → w.heap.size ≤ W.heap.size → I k W → R k v W → body.wpIn (Fence.wide.inRound l) (n - 1 - 1) Try.prog (fun e _ W' => e = .normal ∧ KeepsOthers W W' ∧ Kp W W' ∧ I (k + 1) W') (a₁ v) W)
    (hdone : ∀ (D : Nat) (W : World), w.heap.size ≤ D → I N W → W.heap[D]? = some (.deferred (some [])) → Q .normal { a with defers := { target := .collected D, args := #[] } :: a.defers } W) :
    (Code.rangeFunc g ps assign body).wpIn Fence.wide n Try.prog Q a w := by
  refine wpIn_rangeFunc ?_
  intro fn hfn
  obtain ⟨rec, hrec⟩ : ∃ rec : LoopState → Option Code → Loop, rec = fun st pe => { state := st, pending := pe, fn, tmps := a.tmps, params := ps, assign, body, defers := w.heap.size } := ⟨_, rfl⟩
  obtain ⟨W1, hW1⟩ : ∃ W1, (w.alloc (.deferred (some []))).alloc (.loop (rec .ready none)) = W1 := ⟨_, rfl⟩
  have hL1 : W1.heap[w.heap.size + 1]? = some (.loop (rec .ready none)) := by
    rw [← hW1]; have := World.alloc_heap_new (w.alloc (.deferred (some []))) (.loop (rec .ready none)); rwa [World.size_alloc] at this
  have hK1 : W1.heap[w.heap.size]? = some (.deferred (some [])) := by
    rw [← hW1]; exact (Below.heap_alloc _ _ _ (by simp)).trans (World.alloc_heap_new w _)
  have hb1 : Below w.heap.size w W1 := by
    rw [← hW1]; exact ((Below.refl _ w).alloc (Nat.le_refl _) _).alloc (by simp) _
  have hI1 : I 0 W1 := hIb _ _ _ h0 hb1
  refine ⟨w.heap.size + 1, [{ target := .collected w.heap.size, args := #[] }], W1, { target := .fn (.func gf) lb, args := #[.func (.yield (w.heap.size + 1)) #[] #[]] }, W1, gf,
    #[.func (.yield (w.heap.size + 1)) #[] #[]] ++ lb, W1, ?_, ?_, ?_, ?_, (fun h => by cases h), ?_⟩
  · rw [← hW1, hrec]; exact run_enterLoop_outer _ _ _ _ _
  · simp only [resolve, hg]
    simp [go_sem]
  · intro f' hf'; trivial
  · simp [invoke, go_sem, eg]
  · refine (hseq (w.heap.size + 1) (fun k W => I k W ∧ W.heap[w.heap.size + 1]? = some (.loop (rec .ready none)) ∧ W.heap[w.heap.size]? = some (.deferred (some []))) W1 hb1
      (fun k W W' h hb => ⟨hIb k W W' h.1 hb, (hb.block _ (Array.getElem?_eq_some_iff.1 h.2.1).1).trans h.2.1, (hb.block _ (Array.getElem?_eq_some_iff.1 h.2.2).1).trans h.2.2⟩) ?_ ⟨hI1, hL1, hK1⟩).mono ?_
    · rintro k v W hk ⟨hi, hl, hd⟩ hR
      have hlt : w.heap.size + 1 < W.heap.size := (Array.getElem?_eq_some_iff.1 hl).1
      have hsz : w.heap.size ≤ W.heap.size := by omega
      have hy := run_yield (P := Try.prog) (args := #[v]) hl (by rw [hrec]; exact hps.symm)
      rw [hrec] at hy
      refine ⟨fn, _, assign, body, hy, roundIn_of_wpIn hfn (hassign _ v W _ ⟨_, run_beginRound hl (by rw [hrec]), ?_⟩)⟩
      have hl2 : (W.putObj (w.heap.size + 1) (.loop { rec .ready none with state := .busy })).heap[w.heap.size + 1]? = some (.loop { rec .ready none with state := .busy }) := World.putObj_heap_same hlt
      have hk2 : (W.putObj (w.heap.size + 1) (.loop { rec .ready none with state := .busy })).heap[w.heap.size]? = some (.deferred (some [])) := (World.putObj_heap_other (by omega)).trans hd
      have hw2 : Kp W (W.putObj (w.heap.size + 1) (.loop { rec .ready none with state := .busy })) := hKb W _ _ _ (by omega) hl rfl
      refine wpIn_mono (hbody _ k v _ hk (by simp [World.putObj]; exact hsz) (hIp k W _ _ _ (by omega) hl rfl hi) (hRp k v W _ _ _ (by omega) hl rfl hR)) ?_
      rintro e a3 W3 ⟨rfl, hk3, hb3, hi3⟩
      have hl3 := hk3.same _ _ hl2 rfl
      have hr := run_endRound (P := Try.prog) none hl3
      rw [hrec] at hr
      have hl3' : W3.heap[w.heap.size + 1]? = some (.loop { rec .ready none with state := .busy }) := hl3
      refine ⟨_, _, hr, rfl, ⟨hIp _ _ _ _ _ (by omega) hl3 rfl hi3, ?_, (World.putObj_heap_other (by omega)).trans (hk3.same _ _ hk2 rfl)⟩, ?_⟩
      · rw [hrec]
        exact World.putObj_heap_same (Array.getElem?_eq_some_iff.1 hl3).1
      · exact hKt (hKt hw2 hb3) (hKb W3 _ _ _ (by omega) hl3 rfl)
    · rintro e W2 ⟨⟨v, rfl⟩, ⟨hi, hl, hd⟩⟩
      refine ⟨none, _, by have := run_endLoop (P := Try.prog) hl (by rw [hrec]; simp); rw [hrec] at this; exact this, hdone _ _ (Nat.le_refl _) (hIp _ _ _ _ _ (by omega) hl rfl hi) ((World.putObj_heap_other (by omega)).trans hd)⟩
theorem products_any (n m : Nat) (u v : Value) (w : World) (pa pb : Option Addr) (la ca lb cb : Nat) (hu : u = .agg #[.int .i64 n, .slice pa la ca]) (hv : v = .agg #[.int .i64 m, .slice pb lb cb]) :
    Calls Try.prog 13 #[u, v] w fun e w' => e = .returned (.func (.func 20) #[] #[.pointer (some ⟨w.heap.size, 0, none⟩), .pointer (some ⟨w.heap.size + 1, 0, none⟩)]) ∧ w' = (w.alloc (.cells #[.int .i64 n, .slice pa la ca] 24)).alloc (.cells #[.int .i64 m, .slice pb lb cb] 24) := by
  subst hu hv
  go_enter Try.func13, Try.ntmps13
  go_wp2
  go_ret
  exact ⟨by simp, rfl⟩
end Go.Proofs.Ytehjnlphfaojcaa
