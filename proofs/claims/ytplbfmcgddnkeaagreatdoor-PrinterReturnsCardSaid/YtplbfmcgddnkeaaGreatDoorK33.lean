/- Joined: ParR, ParT, ParU. -/
import Derived.Defers
import Derived.Recover
import Derived.Test.YtplbfmcgddnkeaaGreatDoorK32
set_option linter.unusedVariables false
set_option linter.unusedSimpArgs false
section
set_option maxHeartbeats 1000000
set_option maxRecDepth 100000
namespace Go.Proofs.YtplbfmcgddnkeaaGreatDoor
open Go.RowKit
attribute [local go_sem ↓] Go.wp_at_zero Go.wp_at_succ app_open
def ProgInv (pb tb c lv B M f : Nat) (n p : Int) (T : List Tok) (w : World) (o : Out Syn) (g : Nat) (wr : World) : Prop :=
  ∃ ks ga kc j, ks.length + g ≤ T.length + 2 ∧ At pb pb tb c lv T w [(M, [.int .i64 0, .string ⟨#[]⟩, .int .i64 n, .int .i64 p, .slice ga ks.length kc], 24), (B, z5, 24)] [] (ks, .slice ga ks.length kc) j wr ∧
    o = (declLoop reservedB T f lv g ks j).bind fun xs j => .ok (.mk 0 [] n p xs) j
theorem pprogram_any (pb tb c lv i f : Nat) (T : List Tok) (w : World) (h : PS pb tb c T i lv w) (hl : lv ≤ 128) (hne : program reservedB T f lv i ≠ .none)
    (hcond : ∀ lv, lv ≤ 128 → RdAt pb tb c T 35 (rd reservedB T f .cond) lv)
    (hsch : ∀ lv, lv ≤ 128 → RdAt pb tb c T 36 (rd reservedB T f .scheme) lv)
    (hfor : ∀ lv, lv ≤ 128 → RdAt pb tb c T 37 (rd reservedB T f .formula) lv) :
    Calls Tryz.prog 34 #[.pointer (some ⟨pb, 0, none⟩)] w (POut pb tb c lv T w (program reservedB T f lv i)) := by
  have hA := (At.begin h).alloc z5 24
  have hres := Lib.hid (show program reservedB T f lv i = (need T [112, 114, 111, 99, 101, 115, 115, 101, 115] i).bind fun t j => (number T j).bind fun n j => (need T [59] j).bind fun _ j =>
    (declLoop reservedB T f lv (T.length + 1) [] j).bind fun xs j => .ok (.mk 0 [] n.num t.pos xs) j from rfl)
  have hdecl := Lib.hid (fun j W (hp : PS pb tb c T j lv W) hn => pdeclaration_any pb tb c lv j f T W hp hl hn hcond hsch hfor)
  clear h hcond hsch hfor
  generalize program reservedB T f lv i = o at hres hne ⊢
  generalize hB : w.heap.size = B at *
  go_enter Tryz.func34, Tryz.ntmps34
  go_wp2_with fail
  refine hA.cNeed hres.out (fun _ _ h => ⟨rfl, h⟩) ?_
  intro w2 hres2 hA2
  replace hres2 := Lib.hid hres2
  clear hA hres
  go_wp2_with fail
  have hA3 := hA2.alloc [.int .i64 (tk T i).kind, .string ⟨(tk T i).text.toArray⟩, .int .i64 (tk T i).pos] 45
  generalize hw3 : w2.alloc _ = w3 at hA3 ⊢
  clear hw3
  generalize w2.heap.size = M at hA3 ⊢
  clear hA2
  have hA4 := hA3.drew
  have hA4z := (hA3.alloc z5 24).drew
  have s4 := hA4.c3.1.1.2.2
  have s4z := hA4z.swap.c3.1.1.2.2
  have lt := hA3.c3.2
  have hN := fun (_ : number T (nx T i) ≠ .none) => pnumber_any pb tb c (nx T i) lv T _ hA4.ps
  have hNz := fun (_ : number T (nx T i) ≠ .none) => pnumber_any pb tb c (nx T i) lv T _ hA4z.ps
  generalize (tk T i).pos = p at *
  refine' cut_in ?kk ?ff
  case ff =>
    intro key
    go_region_held2 (fun w' => w'.cell? ⟨M, 2, none⟩ = some (.int .i64 p)) (with_reducible first | exact s4 | exact s4z | exact s9 | exact (cell_alloc_lt l9).trans s9 | exact (cell_setSyn_ne ne8).trans s9 | exact (cell_setSyn_ne ne9).trans ((cell_alloc_lt l9).trans s9)) (first
      | (go_at_call 67; (with_reducible refine hA4.cRdr hres2.out hne hN ?_ ?_); exact fun _ _ h => ⟨rfl, h⟩; intro kd tx n a kids j g m cp w7 hres7 hA7; replace hres7 := Lib.hid hres7; have l9 := hA7.c3.2; have s9 := hA7.c3.1.1.2.2; have ne9 : M ≠ w7.heap.size := Nat.ne_of_lt l9)
      | (go_at_call 67; (with_reducible refine hA4z.cRdr hres2.out hne hNz ?_ ?_); exact fun _ _ h => ⟨rfl, h⟩; intro kd tx n a kids j g m cp w7 hres7 hA7; replace hres7 := Lib.hid hres7; have l9 := hA7.swap.c3.2; have s9 := hA7.swap.c3.1.1.2.2; have ne8 : M ≠ w3.heap.size := Nat.ne_of_lt lt; have hsb := hA7.blk))
    all_goals
      rename_i hH; clear hH
      first
        | (have hA8 := (hA7.setSyn (.int .i64 0) (.string ⟨#[]⟩) (.int .i64 n) (.int .i64 p) (.slice none 0 0)).swap.drop.weak (ts' := []) (fun _ h => (List.not_mem_nil h).elim)
           generalize setSyn w7 _ _ _ _ _ _ = w8 at hA8 ⊢
           generalize w3.heap.size = M2 at hA8 ⊢
           clear hA7 s9 l9 ne8 hsb
           clear w7)
        | (have hA8 := (hA7.alloc [.int .i64 0, .string ⟨#[]⟩, .int .i64 n, .int .i64 p, .slice none 0 0] 24).swap.drop.weak (ts' := []) (fun _ h => (List.not_mem_nil h).elim)
           generalize World.alloc w7 _ = w8 at hA8 ⊢
           generalize w7.heap.size = M2 at hA8 ⊢
           clear hA7 s9 l9 ne9
           clear w7)
      revert hA8
      revert hres7
      revert w8
      revert M2
      revert cp m g j kids a n tx kd
      exact key.out
  case kk =>
    intro kd tx n a kids j g m cp M2 w8 hres8 hA8
    clear hA4 hA4z s4 s4z lt hN hNz hA3 hres2
    go_wp2_with fail
    refine hA8.cNeed hres8.out (fun _ _ h => ⟨rfl, h⟩) ?_
    intro w9 hres9 hA9
    have hinv := Lib.hid (show ProgInv pb tb c lv B M2 f n p T w o (T.length + 1) w9 from ⟨[], none, 0, _, by simp, hA9, hres9⟩)
    clear hA8 hres8 hA9 hres9
    go_wp2_with fail
    go_loopg [15] (T.length + 1) (fun g _ wr => ProgInv pb tb c lv B M2 f n p T w o g wr)
    case atStart => exact hinv.out
    case round =>
      obtain ⟨ks, ga, kc, j, hlen, hA, hres⟩ := hrel
      obtain ⟨g', rfl⟩ : ∃ g', gk = g' + 1 := by
        cases gk with
        | zero => exact absurd hres hne
        | succ g' => exact ⟨g', rfl⟩
      replace hres := Lib.hid (show o = if (tk T j).kind = 3 then .ok (.mk 0 [] n p ks) j else (declaration reservedB T f lv j).bind fun x j => (declLoop reservedB T f lv g' (ks ++ [x]) j).bind fun xs j => .ok (.mk 0 [] n p xs) j by
        rw [hres]
        show (if (tk T j).kind = 3 then _ else _ : Out (List Syn)).bind _ = _
        split
        · rfl
        · rw [Out.bind_assoc])
      clear hinv
      have hle : ks.length ≤ 1000000 := by have := hA.ps.size; omega
      have hlt := hA.ps.lt
      have hsz := hA.ps.size
      have hi0 : (0 : Int) ≤ (j : Int) := by omega
      have hi1 : (j : Int) < (T.length : Int) := by omega
      have hA2 := hA.drew
      have hs := hA2.here
      unfold Here at hs
      by_cases hk : (tk T j).kind = 3
      · have hkb : ((tk T j).kind != 3) = false := by rw [bne_eq_false_iff_eq]; exact hk
        have hres2 := Lib.hid (hres.out.trans (if_pos hk))
        replace hk := Lib.hid hk
        clear hres hA hdecl
        go_wp2_with fail
        go_region_held2 (fun W => W.cell? ⟨pb, 0, none⟩ = some (.slice (some ⟨tb, 0, none⟩) T.length c) ∧ W.cell? ⟨pb, 1, none⟩ = some (.int .i64 j) ∧ W.cell? ⟨tb, j * 3, none⟩ = some (.int .i64 (tk T j).kind) ∧ W.cell? ⟨tb, j * 3 + 1, none⟩ = some (.string ⟨(tk T j).text.toArray⟩) ∧ W.cell? ⟨tb, j * 3 + 2, none⟩ = some (.int .i64 (tk T j).pos)) (with_reducible exact hs) (fail)
        rename_i hH; clear hH
        clear hs
        generalize World.drew _ = w20 at hA2 ⊢
        have hc2 := hA2.c5
        have hA3 := hA2.close.swap
        clear hA2
        have hsb := hA3.blk
        have hAz := hA3.setSyn (.int .i64 0) (.string ⟨List.toArray ([])⟩) (.int .i64 n) (.int .i64 p) (.slice ga ks.length kc)
        obtain ⟨⟨⟨s0, s1, s2, s3, s4⟩, _⟩, _, _⟩ := hAz.c5
        have hout := Lib.hid (hAz.out (k := 0) (tx := []) (n := n) (a := p) (List.mem_cons_self ..))
        clear hAz
        go_wp21
        exact bodyPost_ret (v := .agg #[.int .i64 0, .string ⟨List.toArray ([])⟩, .int .i64 n, .int .i64 p, .slice ga ks.length kc]) (by simp [results, Tryz.results34, go_sem, s0, s1, s2, s3, s4]) rfl (hres2.out ▸ hout.out)
      · have hkb : ((tk T j).kind != 3) = true := by rw [bne_iff_ne]; exact hk
        have hres2 := Lib.hid (hres.out.trans (if_neg hk))
        replace hk := Lib.hid hk
        clear hres hA
        go_wp2_with fail
        go_region_held2 (fun W => W.cell? ⟨pb, 0, none⟩ = some (.slice (some ⟨tb, 0, none⟩) T.length c) ∧ W.cell? ⟨pb, 1, none⟩ = some (.int .i64 j) ∧ W.cell? ⟨tb, j * 3, none⟩ = some (.int .i64 (tk T j).kind) ∧ W.cell? ⟨tb, j * 3 + 1, none⟩ = some (.string ⟨(tk T j).text.toArray⟩) ∧ W.cell? ⟨tb, j * 3 + 2, none⟩ = some (.int .i64 (tk T j).pos)) (with_reducible exact hs) (fail)
        rename_i hH; clear hH
        clear hs
        generalize World.drew _ = w20 at hA2 ⊢
        go_wp2_with fail
        have hcon1 := hdecl.out j _ hA2.drew.ps
        have hA10 := hA2.drew
        try unfold norow at hA10
        generalize hvr : Value.slice ga ks.length kc = vrow at hA10
        clear hvr
        have hc10 := hA10.c5
        have hcon := hcon1
        refine' cut_in ?kk ?ff
        case ff =>
          intro key
          go_region_with (first
            | (go_at_call 68; (with_reducible refine hA10.cRdr hres2.out hne hcon ?_ ?_); exact fun _ _ h => ⟨rfl, h⟩; intro k2 tx2 n2 a2 kids2 j2 g2 m2 cp2 w11 hres11 hA11; replace hres11 := Lib.hid hres11; have hc11 := hA11.c5)
            | (refine At.stepApp' (hA11.junk _) hle (List.mem_cons_self ..) (heap_alloc_new _ _) (by rfl) (by rfl) (by rfl) (by rfl) ?_; intro g12 cap12 w12 hA12; have hc12 := hA12.c5))
          all_goals
            have hA13 := hA12.set4 (.slice (some ⟨g12, 0, none⟩) (ks.length + 1) cap12)
            generalize World.setCell w12 _ _ = w13 at hA13 ⊢
            clear hA11 hA12 hc12 hc11
            generalize Value.slice (some { block := w11.heap.size, off := 0 }) 1 1 = s22 at ⊢
            clear w11 w12
            revert hA13
            revert hres11
            revert w13
            revert s22
            revert g12
            revert cap12
            revert cp2 m2 g2 j2 kids2 a2 n2 tx2 k2
            exact key.out
        case kk =>
          intro k2 tx2 n2 a2 kids2 j2 g2 m2 cp2 cap12 g12 s22 w13 hres11 hA13
          have hI := Lib.hid (show ProgInv pb tb c lv B M2 f n p T w o g' w13 from ⟨ks ++ [.mk k2 tx2 n2 a2 kids2], some ⟨g12, 0, none⟩, cap12, j2, by simp; omega, by simpa using hA13.weak (ts' := []) (fun _ h => (List.not_mem_nil h).elim), hres11.out⟩)
          clear hA10 hc10 hcon hA2 hcon1 hres2 hA13 hres11
          go_wp2_with fail
          go_roundg g'
          case measure => omega
          case rel => exact hI.out
end Go.Proofs.YtplbfmcgddnkeaaGreatDoor
end
section
set_option maxHeartbeats 1000000
set_option maxRecDepth 100000
namespace Go.Proofs.YtplbfmcgddnkeaaGreatDoor
open Go.RowKit
def rdFn : NT → Nat
  | .cond => 35
  | .conj => 70
  | .neg => 125
  | .sum => 161
  | .unit => 188
  | .scheme => 36
  | .term => 71
  | .factor => 126
  | .atom => 162
  | .formula => 37
  | .disj => 72
  | .meet => 127
  | .lit => 163
theorem prd_any (pb tb c : Nat) (T : List Tok) (f : Nat) : ∀ nt lv, lv ≤ 128 → RdAt pb tb c T (rdFn nt) (rd reservedB T f nt) lv := by
  induction f with
  | zero => intro nt lv _ W i _ hn; exact absurd rfl hn
  | succ f ih =>
    intro nt lv hl W i hp hn
    cases nt with
    | cond => exact pcond_any pb tb c lv i T W _ hp hn (ih .conj lv hl)
    | conj => exact pconj_any pb tb c lv i T W _ hp hn (ih .neg lv hl)
    | neg => exact pnegation_any pb tb c lv i f T W hp hl hn (ih .neg) (ih .cond) (ih .sum)
    | sum => exact psum_any pb tb c lv i T W _ hp hn (ih .unit lv hl)
    | unit => exact punit_any pb tb c lv i f T W hp hl hn (ih .sum) (ih .cond)
    | scheme => exact pscheme_any pb tb c lv i T W _ hp hn (ih .term lv hl)
    | term => exact pterm_any pb tb c lv i T W _ hp hn (ih .factor lv hl)
    | factor => exact pfactor_any pb tb c lv i f T W hp hl hn (ih .atom) (ih .factor)
    | atom => exact patom_any pb tb c lv i f T W hp hl hn (ih .cond) (ih .scheme)
    | formula => exact pformula_any pb tb c lv i f T W hp hl hn (ih .disj) (ih .formula)
    | disj => exact pdisj_any pb tb c lv i T W _ hp hn (ih .meet lv hl)
    | meet => exact pmeet_any pb tb c lv i T W _ hp hn (ih .lit lv hl)
    | lit => exact pliteral_any pb tb c lv i f T W hp hl hn (ih .lit) (ih .formula)
theorem pprog_any (pb tb c : Nat) (T : List Tok) (f lv : Nat) (hl : lv ≤ 128) : RdAt pb tb c T 34 (program reservedB T f) lv := fun W i hp hn =>
  pprogram_any pb tb c lv i f T W hp hl hn (prd_any pb tb c T f .cond) (prd_any pb tb c T f .scheme) (prd_any pb tb c T f .formula)
end Go.Proofs.YtplbfmcgddnkeaaGreatDoor
end
section
set_option maxHeartbeats 1000000
set_option maxRecDepth 100000
namespace Go.Proofs.YtplbfmcgddnkeaaGreatDoor
open Go.RowKit
attribute [local go_sem ↓] Go.wp_at_zero Go.wp_at_succ
theorem catch_stores (W : World) (B C D : Nat) (v0 v1 v2 v3 v4 vc vd a0 a1 a2 a3 a4 b0 d0 : Value) (TB TC TD : TypeId) (hB : W.heap[B]? = some (.cells #[a0, a1, a2, a3, a4] TB (0, 0))) (hC : W.heap[C]? = some (.cells #[b0] TC (0, 0))) (hD : W.heap[D]? = some (.cells #[d0] TD (0, 0))) (h1 : B ≠ C) (h2 : B ≠ D) (h3 : C ≠ D) :
    (((setSyn W B v0 v1 v2 v3 v4).setCell ⟨C, 0, none⟩ vc).setCell ⟨D, 0, none⟩ vd).heap[B]? = some (.cells #[v0, v1, v2, v3, v4] TB (0, 0)) ∧
    (((setSyn W B v0 v1 v2 v3 v4).setCell ⟨C, 0, none⟩ vc).setCell ⟨D, 0, none⟩ vd).heap[C]? = some (.cells #[vc] TC (0, 0)) ∧
    (((setSyn W B v0 v1 v2 v3 v4).setCell ⟨C, 0, none⟩ vc).setCell ⟨D, 0, none⟩ vd).heap[D]? = some (.cells #[vd] TD (0, 0)) ∧
    (((setSyn W B v0 v1 v2 v3 v4).setCell ⟨C, 0, none⟩ vc).setCell ⟨D, 0, none⟩ vd).heap.size = W.heap.size ∧
    ∀ k, k ≠ B → k ≠ C → k ≠ D → (((setSyn W B v0 v1 v2 v3 v4).setCell ⟨C, 0, none⟩ vc).setCell ⟨D, 0, none⟩ vd).heap[k]? = W.heap[k]? := by
  have eD : ∀ (W : World) v k, k ≠ D → (W.setCell ⟨D, 0, none⟩ v).heap[k]? = W.heap[k]? := fun W v k h => Below.heap_setCell _ _ _ _ h
  have eC : ∀ (W : World) v k, k ≠ C → (W.setCell ⟨C, 0, none⟩ v).heap[k]? = W.heap[k]? := fun W v k h => Below.heap_setCell _ _ _ _ h
  have one : ∀ (W : World) (X : Nat) (a v : Value) T, W.heap[X]? = some (.cells #[a] T (0, 0)) → (W.setCell ⟨X, 0, none⟩ v).heap[X]? = some (.cells #[v] T (0, 0)) := fun W X a v T h => by
    simp only [World.setCell, Array.getElem?_modify, if_true, h, Option.map_some]; rfl
  have hsB : (setSyn W B v0 v1 v2 v3 v4).heap[B]? = some (.cells #[v0, v1, v2, v3, v4] TB (0, 0)) := by
    unfold setSyn
    simp only [World.setCell, Array.getElem?_modify, if_true, hB, Option.map_some]
    rfl
  refine ⟨?_, ?_, ?_, ?_, fun k kB kC kD => ?_⟩
  · rw [eD _ _ _ h2, eC _ _ _ h1, hsB]
  · rw [eD _ _ _ h3]; exact one _ _ _ _ _ ((heap_setSyn_ne (Ne.symm h1)).trans hC)
  · exact one _ _ _ _ _ ((eC _ _ _ (Ne.symm h3)).trans ((heap_setSyn_ne (Ne.symm h2)).trans hD))
  · simp only [setSyn, World.setCell, Array.size_modify]
  · rw [eD _ _ _ kD, eC _ _ _ kC, heap_setSyn_ne kB]
theorem catch_os (W : World) (B C D : Nat) (v0 v1 v2 v3 v4 vc vd : Value) :
    (((setSyn W B v0 v1 v2 v3 v4).setCell ⟨C, 0, none⟩ vc).setCell ⟨D, 0, none⟩ vd).os = W.os ∧ (((setSyn W B v0 v1 v2 v3 v4).setCell ⟨C, 0, none⟩ vc).setCell ⟨D, 0, none⟩ vd).tape = W.tape ∧ (((setSyn W B v0 v1 v2 v3 v4).setCell ⟨C, 0, none⟩ vc).setCell ⟨D, 0, none⟩ vd).output = W.output := by
  unfold setSyn
  simp only [World.setCell]
  exact ⟨trivial, trivial, trivial⟩
theorem pcatch_idle (p q r : Addr) (w : World) :
    CallsD Tryz.prog 64 #[.pointer (some p), .pointer (some q), .pointer (some r)] .returning w fun e u' w' => e = .returned (.tuple #[]) ∧ u' = .returning ∧ w' = w := by
  refine callsD_of_wpS Tryz.func64 rfl fun c₀ cs hu => ?_
  apply wpS_seq
  apply wpS_region
  simp [wpOpsS, go_sem, recoverD, hu, Tryz.ntmps64, Exit.thenS]
  refine wpS_of_wp ?_
  go_wp2_with fail
  cases c₀
  simp_all [bodyPostS, results, Tryz.results64, Exit.thenS]
def CatchPost (B C D : Nat) (pos : Int) (e : Nat) (TB TC TD : TypeId) (w w' : World) : Prop :=
  w'.heap[B]? = some (.cells #[.int .i64 0, .string ⟨#[]⟩, .int .i64 0, .int .i64 0, .slice none 0 0] TB (0, 0)) ∧ w'.heap[C]? = some (.cells #[.int .i64 pos] TC (0, 0)) ∧ w'.heap[D]? = some (.cells #[.int .i64 e] TD (0, 0)) ∧
    w'.os = w.os ∧ w'.tape = w.tape ∧ w'.output = w.output ∧ w.heap.size ≤ w'.heap.size ∧ ∀ k, k < w.heap.size → k ≠ B → k ≠ C → k ≠ D → w'.heap[k]? = w.heap[k]?
theorem pcatch_any (B C D : Nat) (pos : Int) (e : Nat) (w : World) (a0 a1 a2 a3 a4 b0 d0 : Value) (TB TC TD : TypeId) (hB : w.heap[B]? = some (.cells #[a0, a1, a2, a3, a4] TB (0, 0))) (hC : w.heap[C]? = some (.cells #[b0] TC (0, 0))) (hD : w.heap[D]? = some (.cells #[d0] TD (0, 0))) (h1 : B ≠ C) (h2 : B ≠ D) (h3 : C ≠ D) :
    CallsD Tryz.prog 64 #[.pointer (some ⟨B, 0, none⟩), .pointer (some ⟨C, 0, none⟩), .pointer (some ⟨D, 0, none⟩)] (.panicking (FailChain pos e)) w fun en u' w' => en = .returned (.tuple #[]) ∧ u' = .panicking [{ v := .iface 91 (.agg #[.int .i64 pos, .int .i64 e]), recovered := true }] ∧ CatchPost B C D pos e TB TC TD w w' := by
  refine callsD_of_wpS Tryz.func64 rfl fun c₀ cs hu => ?_
  apply wpS_seq
  apply wpS_region
  simp [wpOpsS, go_sem, recoverD, hu, Tryz.ntmps64, Exit.thenS, FailChain]
  refine wpS_of_wp ?_
  have harr : (#[Value.pointer (some ⟨B, 0, none⟩), .pointer (some ⟨C, 0, none⟩), .pointer (some ⟨D, 0, none⟩)] ++ (Array.replicate 14 undef).setIfInBounds 3 (Value.iface 91 (Value.agg #[Value.int IntKind.i64 pos, Value.int IntKind.i64 e])) : Array Value) =
    #[.pointer (some ⟨B, 0, none⟩), .pointer (some ⟨C, 0, none⟩), .pointer (some ⟨D, 0, none⟩), undef, undef, undef, Value.iface 91 (Value.agg #[Value.int IntKind.i64 pos, Value.int IntKind.i64 e]), undef, undef, undef, undef, undef, undef, undef, undef, undef, undef] := rfl
  rw [harr]
  have hta : ∀ v w, (Instr.typeAssert (.iface 91 v) 20 91 true).run Tryz.prog w = .ok (.tuple #[v, .bool true]) w := by
    intro v w
    kernel_rfl
  have hsb : SynBlk w B := ⟨_, _, _, _, _, _, hB⟩
  have hB0 : B < w.heap.size := (Array.getElem?_eq_some_iff.1 hB).1
  have hC0 : C < w.heap.size := (Array.getElem?_eq_some_iff.1 hC).1
  have hD0 : D < w.heap.size := (Array.getElem?_eq_some_iff.1 hD).1
  have hc1 : w.cell? ⟨C, 0, none⟩ = some b0 := by rw [World.cell?, hC]; rfl
  have hd1 : w.cell? ⟨D, 0, none⟩ = some d0 := by rw [World.cell?, hD]; rfl
  have hc2 : w.frozen? ⟨C, 0, none⟩ = false := Lib.frozen_of_heap hC _
  have hd2 : w.frozen? ⟨D, 0, none⟩ = false := Lib.frozen_of_heap hD _
  have hnB := Nat.ne_of_lt hB0
  have hnC := Nat.ne_of_lt hC0
  have hnD := Nat.ne_of_lt hD0
  replace hB := Lib.hid hB
  replace hC := Lib.hid hC
  replace hD := Lib.hid hD
  have hcl : ∀ k j, k < w.heap.size → (w.alloc (.cells #[.int .i64 pos, .int .i64 e] 91)).cell? ⟨k, j, none⟩ = w.cell? ⟨k, j, none⟩ := fun k j h => cell_alloc_lt h
  have hhp : ∀ k, k < w.heap.size → (w.alloc (.cells #[.int .i64 pos, .int .i64 e] 91)).heap[k]? = w.heap[k]? := fun k h => Lib.alloc_old _ _ _ h
  have hnew := heap_alloc_new w (.cells #[.int .i64 pos, .int .i64 e] 91)
  have hsz1 := World.size_alloc w (.cells #[.int .i64 pos, .int .i64 e] 91)
  have hos : (w.alloc (.cells #[.int .i64 pos, .int .i64 e] 91)).os = w.os ∧ (w.alloc (.cells #[.int .i64 pos, .int .i64 e] 91)).tape = w.tape ∧ (w.alloc (.cells #[.int .i64 pos, .int .i64 e] 91)).output = w.output := ⟨rfl, rfl, rfl⟩
  replace hcl := Lib.hid hcl
  replace hhp := Lib.hid hhp
  replace hnew := Lib.hid hnew
  replace hsz1 := Lib.hid hsz1
  replace hos := Lib.hid hos
  go_wp2_with fail
  generalize World.alloc w _ = w1 at *
  have hB1 := (hhp.out B hB0).trans hB.out
  have hC1 := (hhp.out C hC0).trans hC.out
  have hD1 := (hhp.out D hD0).trans hD.out
  have n0 : w1.drew.cell? ⟨w.heap.size, 0, none⟩ = some (.int .i64 pos) := by rw [World.cell?, show w1.drew.heap = w1.heap from rfl, hnew.out]; rfl
  have n1 : w1.drew.cell? ⟨w.heap.size, 1, none⟩ = some (.int .i64 e) := by rw [World.cell?, show w1.drew.heap = w1.heap from rfl, hnew.out]; rfl
  have hNl : w.heap.size < w1.heap.size := by rw [hsz1.out]; omega
  generalize hN : w.heap.size = N at *
  replace hN := Lib.hid hN
  have hsb1 : SynBlk w1.drew B := ⟨_, _, _, _, _, _, hB1⟩
  have e2 : w1.drew.heap = w1.heap ∧ w1.drew.os = w1.os ∧ w1.drew.tape = w1.tape ∧ w1.drew.output = w1.output := ⟨rfl, rfl, rfl, rfl⟩
  clear hc1 hd1 hc2 hd2
  have hc1 : ∀ v0 v1 v2 v3 v4, (setSyn w1.drew B v0 v1 v2 v3 v4).cell? ⟨C, 0, none⟩ = some b0 := fun v0 v1 v2 v3 v4 => by rw [cell_setSyn_ne (Ne.symm h1), World.cell?, e2.1, hC1]; rfl
  have hc2 : ∀ v0 v1 v2 v3 v4, (setSyn w1.drew B v0 v1 v2 v3 v4).frozen? ⟨C, 0, none⟩ = false := fun v0 v1 v2 v3 v4 => Lib.frozen_of_heap ((heap_setSyn_ne (Ne.symm h1)).trans ((by rw [e2.1]; exact hC1 : w1.drew.heap[C]? = _))) _
  have hd1 : ∀ v0 v1 v2 v3 v4, (setSyn w1.drew B v0 v1 v2 v3 v4).cell? ⟨D, 0, none⟩ = some d0 := fun v0 v1 v2 v3 v4 => by rw [cell_setSyn_ne (Ne.symm h2), World.cell?, e2.1, hD1]; rfl
  have hd2 : ∀ v0 v1 v2 v3 v4, (setSyn w1.drew B v0 v1 v2 v3 v4).frozen? ⟨D, 0, none⟩ = false := fun v0 v1 v2 v3 v4 => Lib.frozen_of_heap ((heap_setSyn_ne (Ne.symm h2)).trans ((by rw [e2.1]; exact hD1 : w1.drew.heap[D]? = _))) _
  have m0 : ∀ v0 v1 v2 v3 v4, (setSyn w1.drew B v0 v1 v2 v3 v4).cell? ⟨N, 0, none⟩ = some (.int .i64 pos) := fun v0 v1 v2 v3 v4 => (cell_setSyn_ne (Ne.symm hnB)).trans n0
  have m1 : ∀ v0 v1 v2 v3 v4, (setSyn w1.drew B v0 v1 v2 v3 v4).cell? ⟨N, 1, none⟩ = some (.int .i64 e) := fun v0 v1 v2 v3 v4 => (cell_setSyn_ne (Ne.symm hnB)).trans n1
  have aC : ∀ (W : World) (v : Value), (W.cell? ⟨N, 0, none⟩ = some (.int .i64 pos) ∧ W.cell? ⟨N, 1, none⟩ = some (.int .i64 e)) → ((W.setCell ⟨C, 0, none⟩ v).cell? ⟨N, 0, none⟩ = some (.int .i64 pos) ∧ (W.setCell ⟨C, 0, none⟩ v).cell? ⟨N, 1, none⟩ = some (.int .i64 e)) := fun W v h => by
    simp only [World.cell?, Below.heap_setCell W ⟨C, 0, none⟩ v N (Ne.symm hnC)] at h ⊢; exact h
  have aD : ∀ (W : World) (v : Value), (W.cell? ⟨N, 0, none⟩ = some (.int .i64 pos) ∧ W.cell? ⟨N, 1, none⟩ = some (.int .i64 e)) → ((W.setCell ⟨D, 0, none⟩ v).cell? ⟨N, 0, none⟩ = some (.int .i64 pos) ∧ (W.setCell ⟨D, 0, none⟩ v).cell? ⟨N, 1, none⟩ = some (.int .i64 e)) := fun W v h => by
    simp only [World.cell?, Below.heap_setCell W ⟨D, 0, none⟩ v N (Ne.symm hnD)] at h ⊢; exact h
  replace aC := Lib.hid aC
  replace aD := Lib.hid aD
  replace hB1 := Lib.hid hB1
  replace hC1 := Lib.hid hC1
  replace hD1 := Lib.hid hD1
  replace e2 := Lib.hid e2
  go_region_held2 (fun W => W.cell? ⟨N, 0, none⟩ = some (.int .i64 pos) ∧ W.cell? ⟨N, 1, none⟩ = some (.int .i64 e)) (with_reducible first | exact ⟨n0, n1⟩ | exact ⟨m0 _ _ _ _ _, m1 _ _ _ _ _⟩ | exact aC.out _ _ ⟨m0 _ _ _ _ _, m1 _ _ _ _ _⟩ | exact aD.out _ _ (aC.out _ _ ⟨m0 _ _ _ _ _, m1 _ _ _ _ _⟩)) (fail)
  rename_i hH; clear hH
  have hst := catch_stores w1.drew B C D (.int .i64 0) (.string ⟨#[]⟩) (.int .i64 0) (.int .i64 0) (.slice none 0 0) (.int .i64 pos) (.int .i64 e) _ _ _ _ _ _ _ TB TC TD hB1.out hC1.out hD1.out h1 h2 h3
  have hot := catch_os w1.drew B C D (.int .i64 0) (.string ⟨#[]⟩) (.int .i64 0) (.int .i64 0) (.slice none 0 0) (.int .i64 pos) (.int .i64 e)
  generalize World.setCell (World.setCell (setSyn w1.drew _ _ _ _ _ _) _ _) _ _ = w9 at hst hot ⊢
  have hfin := Lib.hid (show CatchPost B C D pos e TB TC TD w w9 by
    unfold CatchPost
    rw [hN.out]
    exact
    ⟨hst.1, hst.2.1, hst.2.2.1, hot.1.trans hos.out.1, hot.2.1.trans hos.out.2.1, hot.2.2.trans hos.out.2.2, by rw [hst.2.2.2.1]; exact Nat.le_of_lt hNl, fun k hk kB kC kD => (hst.2.2.2.2 k kB kC kD).trans (hhp.out k hk)⟩)
  clear aC aD hc1 hc2 hd1 hd2 m0 m1 n0 n1 hsb1 hsb hB hC hD hB1 hC1 hD1 e2 hnew hsz1 hos hcl hhp hta harr hst hot
  go_wp2_with fail
  cases c₀
  simp_all [bodyPostS, results, Tryz.results64, Exit.thenS]
  exact hfin.out
end Go.Proofs.YtplbfmcgddnkeaaGreatDoor
end
