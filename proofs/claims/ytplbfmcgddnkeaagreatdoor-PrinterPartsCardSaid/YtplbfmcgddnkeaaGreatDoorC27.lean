/- Walks of functions, and plain facts. -/
import Derived.Test.YtplbfmcgddnkeaaGreatDoorC26
set_option linter.unusedVariables false
set_option linter.unusedSimpArgs false
set_option maxHeartbeats 20000000
set_option maxRecDepth 100000
namespace Go.Proofs.YtplbfmcgddnkeaaGreatDoor
open Go.RowKit
section
attribute [local go_sem ↓] Go.wp_at_zero Go.wp_at_succ Q48
def Here (pb tb c i : Nat) (T : List Tok) (W : World) : Prop := W.cell? ⟨pb, 0, none⟩ = some (.slice (some ⟨tb, 0, none⟩) T.length c) ∧ W.cell? ⟨pb, 1, none⟩ = some (.int .i64 i) ∧
 W.cell? ⟨tb, i * 3, none⟩ = some (.int .i64 (tk T i).kind) ∧ W.cell? ⟨tb, i * 3 + 1, none⟩ = some (.string ⟨(tk T i).text.toArray⟩) ∧ W.cell? ⟨tb, i * 3 + 2, none⟩ = some (.int .i64 (tk T i).pos)
theorem At.here {pb q tb c lv i : Nat} {T : List Tok} {w0 W : World} {L : List Loc} {ts : List (List Syn × Value)} {rw : List Syn × Value} (h : At pb q tb c lv T w0 L ts rw i W) : Here pb tb c i T W :=
 ⟨h.ps.cells.1, h.ps.cells.2.1, h.ps.tok.1, h.ps.tok.2.1, h.ps.tok.2.2⟩
def Qbg (pb tb c lv B M : Nat) (T : List Tok) (p : Int) (w : World) (o : Out Syn) (g : Nat) (wr : World) : Prop :=
 ∃ ks ga kc j, ks.length + g ≤ T.length + 3 ∧ At pb pb tb c lv T w [(M, [.int .i64 14, .string ⟨#[]⟩, .int .i64 0, .int .i64 p, .slice ga ks.length kc], 24), (B, z5, 24)] [] (ks, .slice ga ks.length kc) j wr ∧
  o = (Q1q T g ks j).bind fun xs j => (need T [125] j).bind fun _ j => .ok (.mk 14 [] 0 p xs) j
theorem Qjj (pb tb c lv i : Nat) (T : List Tok) (w : World) (h : PS pb tb c T i lv w) (hne : setR T i ≠ .none) :
  Calls Tryz.prog 191 #[.pointer (some ⟨pb, 0, none⟩)] w (POut pb tb c lv T w (setR T i)) := by
 have hA := (At.begin h).alloc z5 24
 have hres := qh (show setR T i = if isW T [[101, 118, 101, 114, 121, 111, 110, 101]] i then .ok (.mk 14 (tk T i).text 0 (tk T i).pos []) (nx T i)
  else (need T [123] i).bind fun _ j =>
   if isW T [[125]] j then .ok (.mk 14 [] 0 (tk T i).pos []) (nx T j)
   else (number T j).bind fun x j => (Q1q T (T.length + 1) [x] j).bind fun xs j => (need T [125] j).bind fun _ j => .ok (.mk 14 [] 0 (tk T i).pos xs) j from rfl)
 have hlt := h.lt
 have hsz := h.size
 have hi0 : (0 : Int) ≤ (i : Int) := by omega
 have hi1 : (i : Int) < (T.length : Int) := by omega
 clear h
 generalize setR T i = o at hres hne ⊢
 generalize hB : w.heap.size = B at *
 go_enter Tryz.func191, Tryz.ntmps191
 go_wp2_with fail
 have hA2 := hA.drew
 have hs := hA2.here
 generalize hw1 : w.alloc _ = w1 at hA hA2 hs ⊢
 clear hw1
 have hs2 := (hA.junk (.cells #[.int .i64 0, .string ⟨#[]⟩, .int .i64 0, .int .i64 0, .slice none 0 0] 24)).drew.here
 have hA3 := (hA.alloc z5 24).drew.setSyn (.int .i64 14) (.string ⟨#[]⟩) (.int .i64 0) (.int .i64 (tk T i).pos) (.slice none 0 0)
 have hs3 := hA3.here
 unfold Here at hs hs2 hs3
 go_region_held2 (fun W => W.cell? ⟨pb, 0, none⟩ = some (.slice (some ⟨tb, 0, none⟩) T.length c) ∧ W.cell? ⟨pb, 1, none⟩ = some (.int .i64 i) ∧
   W.cell? ⟨tb, i * 3, none⟩ = some (.int .i64 (tk T i).kind) ∧ W.cell? ⟨tb, i * 3 + 1, none⟩ = some (.string ⟨(tk T i).text.toArray⟩) ∧ W.cell? ⟨tb, i * 3 + 2, none⟩ = some (.int .i64 (tk T i).pos)) (with_reducible first | exact hs | exact hs2 | exact hs3) (fail)
 rename_i hH; clear hH
 generalize setSyn (World.drew (World.alloc w1 _)) _ _ _ _ _ _ = w3 at hA3 ⊢
 generalize w1.heap.size = M at hA3 ⊢
 clear hs hs2 hs3 hA2 hA
 clear w1
 generalize hp : (tk T i).pos = p at hres hA3 ⊢
 clear hp
 go_wp2_with fail
 refine hA3.cIs [[101, 118, 101, 114, 121, 111, 110, 101]] (by simp) rfl rfl (by simp) ?_ ?_
 rotate_left
 ·intro hb w4 hA4
  have hres4 := qh (hres.out.trans (if_pos hb))
  clear hA3 hres hb
  go_wp2_with fail
  refine hA4.cNext ?_
  intro w5 hA5
  clear hA4
  have hc5 := hA5.c5
  have hA6 := (hA5.set1 (.string ⟨(tk T i).text.toArray⟩)).leaf
  have hc6 := hA6.c5
  have hA7 := hA6.swap
  clear hA5 hA6
  have hsb := hA7.blk
  have hAz := hA7.setSyn (.int .i64 14) (.string ⟨List.toArray ((tk T i).text)⟩) (.int .i64 0) (.int .i64 p) (.slice none 0 0)
  obtain ⟨⟨⟨s0, s1, s2, s3, s4⟩, _⟩, _, _⟩ := hAz.c5
  have hout := qh (hAz.out (k := 14) (tx := (tk T i).text) (n := 0) (a := p) (List.mem_cons_self ..))
  clear hAz
  go_wp21
  exact bodyPost_ret (v := .agg #[.int .i64 14, .string ⟨List.toArray ((tk T i).text)⟩, .int .i64 0, .int .i64 p, .slice none 0 0]) (by simp [results, Tryz.results191, go_sem, s0, s1, s2, s3, s4]) rfl (hres4.out ▸ hout.out)
 intro hb w4 hA4
 replace hres := qh (hres.out.trans (if_neg (by rw [hb]; decide)))
 clear hA3 hb
 go_wp2_with fail
 refine hA4.cNeed hres.out (fun _ _ h => ⟨rfl, h⟩) ?_
 intro w5 hres5 hA5
 replace hres5 := qh hres5
 clear hres hA4
 go_wp2_with fail
 refine hA5.cIs [[125]] (by simp) rfl rfl (by simp) ?_ ?_
 rotate_left
 ·intro hb w6 hA6
  have hres6 := qh (hres5.out.trans (if_pos hb))
  clear hA5 hres5 hb
  go_wp2_with fail
  refine hA6.cNext ?_
  intro w7 hA7
  clear hA6
  have hc7 := hA7.c5
  have hA8 := hA7.leaf.swap
  clear hA7
  have hsb := hA8.blk
  have hAz := hA8.setSyn (.int .i64 14) (.string ⟨List.toArray ([])⟩) (.int .i64 0) (.int .i64 p) (.slice none 0 0)
  obtain ⟨⟨⟨s0, s1, s2, s3, s4⟩, _⟩, _, _⟩ := hAz.c5
  have hout := qh (hAz.out (k := 14) (tx := []) (n := 0) (a := p) (List.mem_cons_self ..))
  clear hAz
  go_wp21
  exact bodyPost_ret (v := .agg #[.int .i64 14, .string ⟨List.toArray ([])⟩, .int .i64 0, .int .i64 p, .slice none 0 0]) (by simp [results, Tryz.results191, go_sem, s0, s1, s2, s3, s4]) rfl (hres6.out ▸ hout.out)
 intro hb w6 hA6
 replace hres := qh (hres5.out.trans (if_neg (by rw [hb]; decide)))
 clear hA5 hb hres5
 go_wp2_with fail
 have hcon1 := fun (_ : number T (nx T i) ≠ .none) => Q7h pb tb c (nx T i) lv T _ hA6.drew.ps
 have hA10 := hA6.drew
 try unfold norow at hA10
 generalize hvr : Value.slice none 0 0 = vrow at hA10
 clear hvr
 have hc10 := hA10.c5
 have hcon := hcon1
 refine' Q2s ?kk ?ff
 case ff =>
  intro key
  go_region_with (first
   | (go_at_call 67; (with_reducible refine hA10.cRdr hres.out hne hcon ?_ ?_); exact fun _ _ h => ⟨rfl, h⟩; intro k2 tx2 n2 a2 kids2 j2 g2 m2 cp2 w11 hres11 hA11; replace hres11 := qh hres11; have hc11 := hA11.c5)
   | (refine At.stepApp' (hA11.junk _) (by simp) (List.mem_cons_self ..) (heap_alloc_new _ _) (by rfl) (by rfl) (by rfl) (by rfl) ?_; intro g12 cap12 w12 hA12; have hc12 := hA12.c5))
  all_goals
   have hA13 := hA12.set4 (.slice (some ⟨g12, 0, none⟩) (1) cap12)
   generalize World.setCell w12 _ _ = w13 at hA13 ⊢
   clear hA11 hA12 hc12 hc11
   generalize Value.slice (some { block := w11.heap.size, off := 0 }) 1 1 = s22 at ⊢
   clear w11 w12
   revert hA13
   revert hres11
   revert w13
   revert s22
   revert g12
   revert cap12
   revert cp2 m2 g2 j2 kids2 a2 n2 tx2 k2
   exact key.out
 case kk =>
  intro k2 tx2 n2 a2 kids2 j2 g2 m2 cp2 cap12 g12 s22 w13 hres11 hA13
  clear hA10 hc10 hcon hA6 hcon1 hres
  have hinv := qh (show Qbg pb tb c lv B M T p w o (T.length + 1) w13 from ⟨[.mk k2 tx2 n2 a2 kids2], some ⟨g12, 0, none⟩, cap12, j2, by simp; omega, hA13.weak (fun _ h => (List.not_mem_nil h).elim), hres11.out⟩)
  clear hA13 hres11
  go_wp2_with fail
  go_loopg [39] (T.length + 1) (fun g _ wr => Qbg pb tb c lv B M T p w o g wr)
  case atStart => exact hinv.out
  case round =>
   obtain ⟨ks, ga, kc, j, hlen, hA, hres⟩ := hrel
   obtain ⟨g', rfl⟩ : ∃ g', gk = g' + 1 := by
    cases gk with
    | zero => exact absurd hres hne
    | succ g' => exact ⟨g', rfl⟩
   replace hres := qh (show o = if isW T [[44]] j then (number T (nx T j)).bind fun y j => (Q1q T g' (ks ++ [y]) j).bind fun xs j => (need T [125] j).bind fun _ j => .ok (.mk 14 [] 0 p xs) j
     else (need T [125] j).bind fun _ j => .ok (.mk 14 [] 0 p ks) j by
    rw [hres]
    show (if isW T [[44]] j then _ else _ : Out (List Syn)).bind _ = _
    split
    ·rw [Out.bind_assoc]
    ·rfl)
   clear hinv
   have hle : ks.length ≤ 1000000 := by omega
   go_wp2_with fail
   refine hA.cIs [[44]] (by simp) rfl rfl (by simp) ?_ ?_
   ·intro hb w2 hA2
    have hres2 := qh (hres.out.trans (if_neg (by rw [hb]; decide)))
    clear hres hb hA
    go_wp2_with fail
    refine hA2.cNeed hres2.out (fun _ _ h => ⟨rfl, h⟩) ?_
    intro w3 hres3 hA3
    replace hres3 := qh hres3
    have hc3 := hA3.c5
    have hA4 := hA3.close.swap
    clear hA2 hA3 hres2
    have hsb := hA4.blk
    have hAz := hA4.setSyn (.int .i64 14) (.string ⟨List.toArray ([])⟩) (.int .i64 0) (.int .i64 p) (.slice ga ks.length kc)
    obtain ⟨⟨⟨s0, s1, s2, s3, s4⟩, _⟩, _, _⟩ := hAz.c5
    have hout := qh (hAz.out (k := 14) (tx := []) (n := 0) (a := p) (List.mem_cons_self ..))
    clear hAz
    go_wp21
    exact bodyPost_ret (v := .agg #[.int .i64 14, .string ⟨List.toArray ([])⟩, .int .i64 0, .int .i64 p, .slice ga ks.length kc]) (by simp [results, Tryz.results191, go_sem, s0, s1, s2, s3, s4]) rfl (hres3.out ▸ hout.out)
   ·intro hb w2 hA2
    replace hres := qh (hres.out.trans (if_pos hb))
    clear hb hA
    go_wp2_with fail
    refine hA2.cNext ?_
    intro w3 hA3
    clear hA2
    go_wp2_with fail
    have hcon1 := fun (_ : number T (nx T j) ≠ .none) => Q7h pb tb c (nx T j) lv T _ hA3.drew.ps
    have hA10 := hA3.drew
    try unfold norow at hA10
    generalize hvr : Value.slice ga ks.length kc = vrow at hA10
    clear hvr
    have hc10 := hA10.c5
    have hcon := hcon1
    refine' Q2s ?kk ?ff
    case ff =>
     intro key
     go_region_with (first
      | (go_at_call 67; (with_reducible refine hA10.cRdr hres.out hne hcon ?_ ?_); exact fun _ _ h => ⟨rfl, h⟩; intro k2 tx2 n2 a2 kids2 j2 g2 m2 cp2 w11 hres11 hA11; replace hres11 := qh hres11; have hc11 := hA11.c5)
      | (refine At.stepApp' (hA11.junk _) hle (List.mem_cons_self ..) (heap_alloc_new _ _) (by rfl) (by rfl) (by rfl) (by rfl) ?_; intro g12 cap12 w12 hA12; have hc12 := hA12.c5))
     all_goals
      have hA13 := hA12.set4 (.slice (some ⟨g12, 0, none⟩) (ks.length + 1) cap12)
      generalize World.setCell w12 _ _ = w13 at hA13 ⊢
      clear hA11 hA12 hc12 hc11
      generalize Value.slice (some { block := w11.heap.size, off := 0 }) 1 1 = s22 at ⊢
      clear w11 w12
      revert hA13
      revert hres11
      revert w13
      revert s22
      revert g12
      revert cap12
      revert cp2 m2 g2 j2 kids2 a2 n2 tx2 k2
      exact key.out
    case kk =>
     intro k2 tx2 n2 a2 kids2 j2 g2 m2 cp2 cap12 g12 s22 w13 hres11 hA13
     have hI := qh (show Qbg pb tb c lv B M T p w o g' w13 from ⟨ks ++ [.mk k2 tx2 n2 a2 kids2], some ⟨g12, 0, none⟩, cap12, j2, by simp; omega, by simpa using hA13.weak (ts' := []) (fun _ h => (List.not_mem_nil h).elim), hres11.out⟩)
     clear hA10 hc10 hcon hA3 hcon1 hres hA13 hres11
     go_wp2_with fail
     go_roundg g'
     case measure => omega
     case rel => exact hI.out
end
section
attribute [local go_sem ↓] Go.wp_at_zero Go.wp_at_succ
theorem rdSet (pb tb c : Nat) (T : List Tok) (lv : Nat) : RdAt pb tb c T 191 (fun _ => setR T) lv := fun W i hp hn => Qjj pb tb c lv i T W hp hn
def Qh7 : List (List UInt8) := [[105, 110, 112, 117, 116], [104, 101, 97, 114, 100], [100, 101, 99, 105, 100, 101, 100]]
def Qf8 : List (List UInt8) := [[103, 105, 118, 101, 110], [102, 97, 117, 108, 116, 121], [97, 116]]
def Qfz : List (List UInt8) := [[69], [68], [67]]
def Qf1 : List (List UInt8) := [[110, 101, 120, 116], [97, 108, 119, 97, 121, 115], [101, 118, 101, 110, 116, 117, 97, 108, 108, 121]]
theorem Qt9 (pb tb c lv i f : Nat) (T : List Tok) (w : World) (h : PS pb tb c T i lv w) (hl : lv ≤ 128) (hne : rd Q0 T (f + 1) .lit lv i ≠ .none)
  (hlit : ∀ lv, lv ≤ 128 → RdAt pb tb c T 163 (rd Q0 T f .lit) lv)
  (hfor : ∀ lv, lv ≤ 128 → RdAt pb tb c T 37 (rd Q0 T f .formula) lv) :
  Calls Tryz.prog 163 #[.pointer (some ⟨pb, 0, none⟩)] w (POut pb tb c lv T w (rd Q0 T (f + 1) .lit lv i)) := by
 have hA := (At.begin h).alloc z5 24
 have hres := qh (show rd Q0 T (f + 1) .lit lv i = if isW T [kNot] i then notR T (rd Q0 T f .lit) lv i
  else if isW T [[116, 114, 117, 101]] i then .ok (.mk 10 (tk T i).text 0 (tk T i).pos []) (nx T i)
  else if isW T [[40]] i then parens T (rd Q0 T f .formula) lv i
  else if isW T Qh7 i then arguments T (tk T i) [fun _ => number T, fun _ => number T] lv (nx T i)
  else if isW T Qf8 i then arguments T (tk T i) [fun _ => number T] lv (nx T i)
  else if isW T [[75]] i then arguments T (tk T i) [fun _ => number T, rd Q0 T f .formula] lv (nx T i)
  else if isW T Qfz i then arguments T (tk T i) [fun _ => setR T, rd Q0 T f .formula] lv (nx T i)
  else if isW T Qf1 i then arguments T (tk T i) [rd Q0 T f .formula] lv (nx T i)
  else fail T 4 i from rfl)
 have hNot := qh (fun i W (hp : PS pb tb c T i lv W) hn => Qfk pb tb c i lv T W 163 #[.pointer (some ⟨pb, 0, none⟩)] #[] (rd Q0 T f .lit) (fun _ _ => rfl) hp (by omega) hn (fun hd W i hp ho hn => hlit (lv + 1) (by omega) W i hp hn))
 clear h
 generalize rd Q0 T (f + 1) .lit lv i = o at hres hne ⊢
 generalize hB : w.heap.size = B at *
 replace hfor := qh hfor
 clear hlit
 go_enter Tryz.func163, Tryz.ntmps163
 go_wp2_with fail
 refine hA.cIs [kNot] (by simp) rfl rfl (by simp [hB]) ?_ ?_
 rotate_left
 ·intro hb w2 hA2
  have hres2 := qh (hres.out.trans (if_pos hb))
  go_wp2_with fail
  refine hA2.cRdr (hres2.out.trans (Out.bind_ok _)) hne (hNot.out _ _ hA2.ps) (fun _ _ h => ⟨rfl, h⟩) ?_
  intro kd tx n a kids j g m cp w3 hres3 hA3
  replace hres3 := qh hres3
  clear hNot hfor hA2
  have hsb := hA3.blk
  have hAz := hA3.setSyn (.int .i64 kd) (.string ⟨List.toArray (tx)⟩) (.int .i64 n) (.int .i64 a) (.slice g m cp)
  obtain ⟨⟨⟨s0, s1, s2, s3, s4⟩, _⟩, _, _⟩ := hAz.c5
  have hout := qh (hAz.out (k := kd) (tx := tx) (n := n) (a := a) (List.mem_cons_self ..))
  clear hAz
  go_wp21
  exact bodyPost_ret (v := .agg #[.int .i64 kd, .string ⟨List.toArray (tx)⟩, .int .i64 n, .int .i64 a, .slice g m cp]) (by simp [results, Tryz.results163, go_sem, s0, s1, s2, s3, s4]) rfl (hres3.out ▸ hout.out)
 clear hNot
 intro hb w2 hA2
 replace hres := qh (hres.out.trans (if_neg (by rw [hb]; decide)))
 clear hb hA
 go_wp2_with fail
 have hA := hA2
 clear hA2
 refine hA.cIs [[116, 114, 117, 101]] (by simp) rfl rfl (by simp) ?_ ?_
 rotate_left
 ·intro hb w2 hA2
  have hres2 := qh (hres.out.trans (if_pos hb))
  clear hb
  go_wp2_with fail
  refine hA2.cNext ?_
  intro w3 hA3
  clear hA2
  have hA4 := (hA3.alloc [.int .i64 (tk T i).kind, .string ⟨(tk T i).text.toArray⟩, .int .i64 (tk T i).pos] 45).leaf.swap
  have hsb3 := hA3.blk
  clear hA3
  have hsb := hA4.blk
  have hAz := hA4.setSyn (.int .i64 10) (.string ⟨List.toArray ((tk T i).text)⟩) (.int .i64 0) (.int .i64 (tk T i).pos) (.slice none 0 0)
  obtain ⟨⟨⟨s0, s1, s2, s3, s4⟩, _⟩, _, _⟩ := hAz.c5
  have hout := qh (hAz.out (k := 10) (tx := (tk T i).text) (n := 0) (a := (tk T i).pos) (List.mem_cons_self ..))
  clear hAz
  go_wp21
  exact bodyPost_ret (v := .agg #[.int .i64 10, .string ⟨List.toArray ((tk T i).text)⟩, .int .i64 0, .int .i64 (tk T i).pos, .slice none 0 0]) (by simp [results, Tryz.results163, go_sem, s0, s1, s2, s3, s4]) rfl (hres2.out ▸ hout.out)
 intro hb w2 hA2
 replace hres := qh (hres.out.trans (if_neg (by rw [hb]; decide)))
 clear hb hA
 go_wp2_with fail
 have hA := hA2
 clear hA2
 refine hA.cIs [[40]] (by simp) rfl rfl (by simp) ?_ ?_
 rotate_left
 ·intro hb w2 hA2
  have hres2 := qh (hres.out.trans (if_pos hb))
  clear hb
  go_wp2_with fail
  refine hA2.cRdr (hres2.out.trans (Out.bind_ok _)) hne (fun hn => Q7b pb pb tb c i lv T _ Tru 37 #[.pointer (some ⟨pb, 0, none⟩)] #[] (rd Q0 T f .formula) (fun _ _ => rfl) hA2.ps hA2.ps.pos (by omega) (Q4l _ _) hn (fun hd W i hp ho hn => hfor.out (lv + 1) (by omega) W i hp hn)) (fun _ _ h => ⟨rfl, h⟩) ?_
  intro kd tx n a kids j g m cp w4 hres4 hA4
  replace hres4 := qh hres4
  clear hA2
  have hsb := hA4.blk
  have hAz := hA4.setSyn (.int .i64 kd) (.string ⟨List.toArray (tx)⟩) (.int .i64 n) (.int .i64 a) (.slice g m cp)
  obtain ⟨⟨⟨s0, s1, s2, s3, s4⟩, _⟩, _, _⟩ := hAz.c5
  have hout := qh (hAz.out (k := kd) (tx := tx) (n := n) (a := a) (List.mem_cons_self ..))
  clear hAz
  go_wp21
  exact bodyPost_ret (v := .agg #[.int .i64 kd, .string ⟨List.toArray (tx)⟩, .int .i64 n, .int .i64 a, .slice g m cp]) (by simp [results, Tryz.results163, go_sem, s0, s1, s2, s3, s4]) rfl (hres4.out ▸ hout.out)
 intro hb w2 hA2
 replace hres := qh (hres.out.trans (if_neg (by rw [hb]; decide)))
 clear hb hA
 go_wp2_with fail
 have hA := hA2
 clear hA2
 refine hA.cIs Qh7 (by decide) rfl rfl (by simp) ?_ ?_
 rotate_left
 ·intro hb w2 hA2
  have hres2 := qh (hres.out.trans (if_pos hb))
  clear hb
  go_wp2_with fail
  refine hA2.cNext ?_
  intro w3 hA3
  clear hA2
  go_wp2_with fail
  refine hA3.cArgs [67, 67] [fun _ => number T, fun _ => number T] rfl (by rfl) (by simp) hl rfl (by decide) (by intro f hf args w; simp only [List.mem_cons, List.not_mem_nil, or_false] at hf; rcases hf with rfl | rfl <;> rfl) (rds2 (fun lv _ => rdNum pb tb c T lv) (fun lv _ => rdNum pb tb c T lv)) hne hres2.out (fun _ _ h => ⟨rfl, h⟩) ?_
  intro kd tx n a kids j g m cp w4 hres4 hA4
  replace hres4 := qh hres4
  clear hA3
  have hsb := hA4.blk
  have hAz := hA4.setSyn (.int .i64 kd) (.string ⟨List.toArray (tx)⟩) (.int .i64 n) (.int .i64 a) (.slice g m cp)
  obtain ⟨⟨⟨s0, s1, s2, s3, s4⟩, _⟩, _, _⟩ := hAz.c5
  have hout := qh (hAz.out (k := kd) (tx := tx) (n := n) (a := a) (List.mem_cons_self ..))
  clear hAz
  go_wp21
  exact bodyPost_ret (v := .agg #[.int .i64 kd, .string ⟨List.toArray (tx)⟩, .int .i64 n, .int .i64 a, .slice g m cp]) (by simp [results, Tryz.results163, go_sem, s0, s1, s2, s3, s4]) rfl (hres4.out ▸ hout.out)
 intro hb w2 hA2
 replace hres := qh (hres.out.trans (if_neg (by rw [hb]; decide)))
 clear hb hA
 go_wp2_with fail
 have hA := hA2
 clear hA2
 refine hA.cIs Qf8 (by decide) rfl rfl (by simp) ?_ ?_
 rotate_left
 ·intro hb w2 hA2
  have hres2 := qh (hres.out.trans (if_pos hb))
  clear hb
  go_wp2_with fail
  refine hA2.cNext ?_
  intro w3 hA3
  clear hA2
  go_wp2_with fail
  refine hA3.cArgs [67] [fun _ => number T] rfl (by rfl) (by simp) hl rfl (by decide) (by intro f hf args w; rw [List.mem_singleton.1 hf]; rfl) (rds1 fun lv _ => rdNum pb tb c T lv) hne hres2.out (fun _ _ h => ⟨rfl, h⟩) ?_
  intro kd tx n a kids j g m cp w4 hres4 hA4
  replace hres4 := qh hres4
  clear hA3
  have hsb := hA4.blk
  have hAz := hA4.setSyn (.int .i64 kd) (.string ⟨List.toArray (tx)⟩) (.int .i64 n) (.int .i64 a) (.slice g m cp)
  obtain ⟨⟨⟨s0, s1, s2, s3, s4⟩, _⟩, _, _⟩ := hAz.c5
  have hout := qh (hAz.out (k := kd) (tx := tx) (n := n) (a := a) (List.mem_cons_self ..))
  clear hAz
  go_wp21
  exact bodyPost_ret (v := .agg #[.int .i64 kd, .string ⟨List.toArray (tx)⟩, .int .i64 n, .int .i64 a, .slice g m cp]) (by simp [results, Tryz.results163, go_sem, s0, s1, s2, s3, s4]) rfl (hres4.out ▸ hout.out)
 intro hb w2 hA2
 replace hres := qh (hres.out.trans (if_neg (by rw [hb]; decide)))
 clear hb hA
 go_wp2_with fail
 have hA := hA2
 clear hA2
 refine hA.cIs [[75]] (by simp) rfl rfl (by simp) ?_ ?_
 rotate_left
 ·intro hb w2 hA2
  have hres2 := qh (hres.out.trans (if_pos hb))
  clear hb
  go_wp2_with fail
  refine hA2.cNext ?_
  intro w3 hA3
  clear hA2
  go_wp2_with fail
  refine hA3.cArgs [67, 37] [fun _ => number T, rd Q0 T f .formula] rfl (by rfl) (by simp) hl rfl (by decide) (by intro f hf args w; simp only [List.mem_cons, List.not_mem_nil, or_false] at hf; rcases hf with rfl | rfl <;> rfl) (rds2 (fun lv _ => rdNum pb tb c T lv) hfor.out) hne hres2.out (fun _ _ h => ⟨rfl, h⟩) ?_
  intro kd tx n a kids j g m cp w4 hres4 hA4
  replace hres4 := qh hres4
  clear hA3
  have hsb := hA4.blk
  have hAz := hA4.setSyn (.int .i64 kd) (.string ⟨List.toArray (tx)⟩) (.int .i64 n) (.int .i64 a) (.slice g m cp)
  obtain ⟨⟨⟨s0, s1, s2, s3, s4⟩, _⟩, _, _⟩ := hAz.c5
  have hout := qh (hAz.out (k := kd) (tx := tx) (n := n) (a := a) (List.mem_cons_self ..))
  clear hAz
  go_wp21
  exact bodyPost_ret (v := .agg #[.int .i64 kd, .string ⟨List.toArray (tx)⟩, .int .i64 n, .int .i64 a, .slice g m cp]) (by simp [results, Tryz.results163, go_sem, s0, s1, s2, s3, s4]) rfl (hres4.out ▸ hout.out)
 intro hb w2 hA2
 replace hres := qh (hres.out.trans (if_neg (by rw [hb]; decide)))
 clear hb hA
 go_wp2_with fail
 have hA := hA2
 clear hA2
 refine hA.cIs Qfz (by decide) rfl rfl (by simp) ?_ ?_
 rotate_left
 ·intro hb w2 hA2
  have hres2 := qh (hres.out.trans (if_pos hb))
  clear hb
  go_wp2_with fail
  refine hA2.cNext ?_
  intro w3 hA3
  clear hA2
  go_wp2_with fail
  refine hA3.cArgs [191, 37] [fun _ => setR T, rd Q0 T f .formula] rfl (by rfl) (by simp) hl rfl (by decide) (by intro f hf args w; simp only [List.mem_cons, List.not_mem_nil, or_false] at hf; rcases hf with rfl | rfl <;> rfl) (rds2 (fun lv _ => rdSet pb tb c T lv) hfor.out) hne hres2.out (fun _ _ h => ⟨rfl, h⟩) ?_
  intro kd tx n a kids j g m cp w4 hres4 hA4
  replace hres4 := qh hres4
  clear hA3
  have hsb := hA4.blk
  have hAz := hA4.setSyn (.int .i64 kd) (.string ⟨List.toArray (tx)⟩) (.int .i64 n) (.int .i64 a) (.slice g m cp)
  obtain ⟨⟨⟨s0, s1, s2, s3, s4⟩, _⟩, _, _⟩ := hAz.c5
  have hout := qh (hAz.out (k := kd) (tx := tx) (n := n) (a := a) (List.mem_cons_self ..))
  clear hAz
  go_wp21
  exact bodyPost_ret (v := .agg #[.int .i64 kd, .string ⟨List.toArray (tx)⟩, .int .i64 n, .int .i64 a, .slice g m cp]) (by simp [results, Tryz.results163, go_sem, s0, s1, s2, s3, s4]) rfl (hres4.out ▸ hout.out)
 intro hb w2 hA2
 replace hres := qh (hres.out.trans (if_neg (by rw [hb]; decide)))
 clear hb hA
 go_wp2_with fail
 have hA := hA2
 clear hA2
 refine hA.cIs Qf1 (by decide) rfl rfl (by simp) ?_ ?_
 rotate_left
 ·intro hb w2 hA2
  have hres2 := qh (hres.out.trans (if_pos hb))
  clear hb
  go_wp2_with fail
  refine hA2.cNext ?_
  intro w3 hA3
  clear hA2
  go_wp2_with fail
  refine hA3.cArgs [37] [rd Q0 T f .formula] rfl (by rfl) (by simp) hl rfl (by decide) (by intro f hf args w; rw [List.mem_singleton.1 hf]; rfl) (rds1 hfor.out) hne hres2.out (fun _ _ h => ⟨rfl, h⟩) ?_
  intro kd tx n a kids j g m cp w4 hres4 hA4
  replace hres4 := qh hres4
  clear hA3
  have hsb := hA4.blk
  have hAz := hA4.setSyn (.int .i64 kd) (.string ⟨List.toArray (tx)⟩) (.int .i64 n) (.int .i64 a) (.slice g m cp)
  obtain ⟨⟨⟨s0, s1, s2, s3, s4⟩, _⟩, _, _⟩ := hAz.c5
  have hout := qh (hAz.out (k := kd) (tx := tx) (n := n) (a := a) (List.mem_cons_self ..))
  clear hAz
  go_wp21
  exact bodyPost_ret (v := .agg #[.int .i64 kd, .string ⟨List.toArray (tx)⟩, .int .i64 n, .int .i64 a, .slice g m cp]) (by simp [results, Tryz.results163, go_sem, s0, s1, s2, s3, s4]) rfl (hres4.out ▸ hout.out)
 intro hb w2 hA2
 replace hres := qh (hres.out.trans (if_neg (by rw [hb]; decide)))
 clear hb hA
 go_wp2_with fail
 have hA := hA2
 clear hA2
 refine hA.cFail 4 ?_
 intro w2 ho
 exact ⟨rfl, hA.err ho hres.out⟩
end
section
attribute [local go_sem ↓] Go.wp_at_zero Go.wp_at_succ
theorem Qqz (pb tb c lv i f : Nat) (T : List Tok) (w : World) (h : PS pb tb c T i lv w) (hl : lv ≤ 128) (hne : rd Q0 T (f + 1) .unit lv i ≠ .none)
  (hsum : ∀ lv, lv ≤ 128 → RdAt pb tb c T 161 (rd Q0 T f .sum) lv)
  (hcond : ∀ lv, lv ≤ 128 → RdAt pb tb c T 35 (rd Q0 T f .cond) lv) :
  Calls Tryz.prog 188 #[.pointer (some ⟨pb, 0, none⟩)] w (POut pb tb c lv T w (rd Q0 T (f + 1) .unit lv i)) := by
 have hA := (At.begin h).alloc z5 24
 have hres := qh (show rd Q0 T (f + 1) .unit lv i = if (tk T i).kind = 1 then number T i
  else if isW T [[105, 110], [111, 117, 116]] i then arguments T (tk T i) [rd Q0 T f .sum] lv (nx T i)
  else if isW T [[104, 101, 97, 114, 115]] i then arguments T (tk T i) [rd Q0 T f .sum, rd Q0 T f .sum] lv (nx T i)
  else if isW T [[99, 111, 117, 110, 116]] i then
   (name Q0 T (nx T i)).bind fun v j => (parens T (rd Q0 T f .cond) lv j).bind fun x j => .ok (.mk 13 (tk T i).text 0 (tk T i).pos [v, x]) j
  else if isW T [[40]] i then parens T (rd Q0 T f .cond) lv i
  else name Q0 T i from rfl)
 have hlt := h.lt
 have hsz := h.size
 have hi0 : (0 : Int) ≤ (i : Int) := by omega
 have hi1 : (i : Int) < (T.length : Int) := by omega
 clear h
 generalize rd Q0 T (f + 1) .unit lv i = o at hres hne ⊢
 generalize hB : w.heap.size = B at *
 replace hsum := qh hsum
 replace hcond := qh hcond
 have hA1 := hA.drew
 have hs := hA1.here
 unfold Here at hs
 by_cases hk : (tk T i).kind = 1
 ·have hkb : ((tk T i).kind == 1) = true := by rw [beq_iff_eq]; exact hk
  replace hres := qh (hres.out.trans (if_pos hk))
  replace hk := qh hk
  clear hsum hcond
  go_enter Tryz.func188, Tryz.ntmps188
  go_wp2_with fail
  go_region_held2 (fun W => W.cell? ⟨pb, 0, none⟩ = some (.slice (some ⟨tb, 0, none⟩) T.length c) ∧ W.cell? ⟨pb, 1, none⟩ = some (.int .i64 i) ∧
   W.cell? ⟨tb, i * 3, none⟩ = some (.int .i64 (tk T i).kind) ∧ W.cell? ⟨tb, i * 3 + 1, none⟩ = some (.string ⟨(tk T i).text.toArray⟩) ∧ W.cell? ⟨tb, i * 3 + 2, none⟩ = some (.int .i64 (tk T i).pos)) (with_reducible exact hs) (fail)
  go_wp2_with fail
  refine hA1.cRdr (hres.out.trans (Out.bind_ok _)) hne (fun _ => Q7h pb tb c i lv T _ hA1.ps) (fun _ _ h => ⟨rfl, h⟩) ?_
  intro kd tx n a kids j g m cp w4 hres4 hA4
  replace hres4 := qh hres4
  clear hA hA1 hs
  have hsb := hA4.blk
  have hAz := hA4.setSyn (.int .i64 kd) (.string ⟨List.toArray (tx)⟩) (.int .i64 n) (.int .i64 a) (.slice g m cp)
  obtain ⟨⟨⟨s0, s1, s2, s3, s4⟩, _⟩, _, _⟩ := hAz.c5
  have hout := qh (hAz.out (k := kd) (tx := tx) (n := n) (a := a) (List.mem_cons_self ..))
  clear hAz
  go_wp21
  exact bodyPost_ret (v := .agg #[.int .i64 kd, .string ⟨List.toArray (tx)⟩, .int .i64 n, .int .i64 a, .slice g m cp]) (by simp [results, Tryz.results188, go_sem, s0, s1, s2, s3, s4]) rfl (hres4.out ▸ hout.out)
 have hkb : ((tk T i).kind == 1) = false := by rw [beq_eq_false_iff_ne]; exact hk
 replace hres := qh (hres.out.trans (if_neg hk))
 replace hk := qh hk
 go_enter Tryz.func188, Tryz.ntmps188
 go_wp2_with fail
 go_region_held2 (fun W => W.cell? ⟨pb, 0, none⟩ = some (.slice (some ⟨tb, 0, none⟩) T.length c) ∧ W.cell? ⟨pb, 1, none⟩ = some (.int .i64 i) ∧
   W.cell? ⟨tb, i * 3, none⟩ = some (.int .i64 (tk T i).kind) ∧ W.cell? ⟨tb, i * 3 + 1, none⟩ = some (.string ⟨(tk T i).text.toArray⟩) ∧ W.cell? ⟨tb, i * 3 + 2, none⟩ = some (.int .i64 (tk T i).pos)) (with_reducible exact hs) (fail)
 rename_i hH; clear hH
 clear hA hs
 generalize World.drew _ = w1 at hA1 ⊢
 have hA := hA1
 clear hA1
 go_wp2_with fail
 refine hA.cIs [[105, 110], [111, 117, 116]] (by simp) rfl rfl (by simp) ?_ ?_
 rotate_left
 ·intro hb w2 hA2
  have hres2 := qh (hres.out.trans (if_pos hb))
  clear hb
  go_wp2_with fail
  refine hA2.cNext ?_
  intro w3 hA3
  clear hA2
  go_wp2_with fail
  refine hA3.cArgs [161] [rd Q0 T f .sum] rfl (by rfl) (by simp) hl rfl (by decide) (by intro f hf args w; rw [List.mem_singleton.1 hf]; rfl) (rds1 hsum.out) hne hres2.out (fun _ _ h => ⟨rfl, h⟩) ?_
  intro kd tx n a kids j g m cp w4 hres4 hA4
  replace hres4 := qh hres4
  clear hA3
  have hsb := hA4.blk
  have hAz := hA4.setSyn (.int .i64 kd) (.string ⟨List.toArray (tx)⟩) (.int .i64 n) (.int .i64 a) (.slice g m cp)
  obtain ⟨⟨⟨s0, s1, s2, s3, s4⟩, _⟩, _, _⟩ := hAz.c5
  have hout := qh (hAz.out (k := kd) (tx := tx) (n := n) (a := a) (List.mem_cons_self ..))
  clear hAz
  go_wp21
  exact bodyPost_ret (v := .agg #[.int .i64 kd, .string ⟨List.toArray (tx)⟩, .int .i64 n, .int .i64 a, .slice g m cp]) (by simp [results, Tryz.results188, go_sem, s0, s1, s2, s3, s4]) rfl (hres4.out ▸ hout.out)
 intro hb w2 hA2
 replace hres := qh (hres.out.trans (if_neg (by rw [hb]; decide)))
 clear hb hA
 go_wp2_with fail
 have hA := hA2
 clear hA2
 refine hA.cIs [[104, 101, 97, 114, 115]] (by simp) rfl rfl (by simp) ?_ ?_
 rotate_left
 ·intro hb w2 hA2
  have hres2 := qh (hres.out.trans (if_pos hb))
  clear hb
  go_wp2_with fail
  refine hA2.cNext ?_
  intro w3 hA3
  clear hA2
  go_wp2_with fail
  refine hA3.cArgs [161, 161] [rd Q0 T f .sum, rd Q0 T f .sum] rfl (by rfl) (by simp) hl rfl (by decide) (by intro f hf args w; simp only [List.mem_cons, List.not_mem_nil, or_false] at hf; rcases hf with rfl | rfl <;> rfl) (rds2 hsum.out hsum.out) hne hres2.out (fun _ _ h => ⟨rfl, h⟩) ?_
  intro kd tx n a kids j g m cp w4 hres4 hA4
  replace hres4 := qh hres4
  clear hA3
  have hsb := hA4.blk
  have hAz := hA4.setSyn (.int .i64 kd) (.string ⟨List.toArray (tx)⟩) (.int .i64 n) (.int .i64 a) (.slice g m cp)
  obtain ⟨⟨⟨s0, s1, s2, s3, s4⟩, _⟩, _, _⟩ := hAz.c5
  have hout := qh (hAz.out (k := kd) (tx := tx) (n := n) (a := a) (List.mem_cons_self ..))
  clear hAz
  go_wp21
  exact bodyPost_ret (v := .agg #[.int .i64 kd, .string ⟨List.toArray (tx)⟩, .int .i64 n, .int .i64 a, .slice g m cp]) (by simp [results, Tryz.results188, go_sem, s0, s1, s2, s3, s4]) rfl (hres4.out ▸ hout.out)
 intro hb w2 hA2
 replace hres := qh (hres.out.trans (if_neg (by rw [hb]; decide)))
 clear hb hA
 go_wp2_with fail
 have hA := hA2
 clear hA2
 refine hA.cIs [[99, 111, 117, 110, 116]] (by simp) rfl rfl (by simp) ?_ ?_
 rotate_left
 ·intro hb w2 hA2
  have hres2 := qh (hres.out.trans (if_pos hb))
  clear hb hA
  go_wp2_with fail
  refine hA2.cNext ?_
  intro w3 hA3
  clear hA2
  have hA4 := hA3.alloc [.int .i64 (tk T i).kind, .string ⟨(tk T i).text.toArray⟩, .int .i64 (tk T i).pos] 45
  have hMB : B ≠ w3.heap.size := fun e => (List.nodup_cons.1 hA4.nd).1 (by simp [e])
  go_wp2_with fail
  generalize hw4 : w3.alloc _ = w4 at hA4 ⊢
  clear hw4
  generalize w3.heap.size = M at hA4 hMB ⊢
  clear hA3
  refine hA4.cRdr hres2.out hne (fun _ => Q73 pb tb c _ lv T _ hA4.ps) (fun _ _ h => ⟨rfl, h⟩) ?_
  intro kn txn nn an kidsn jn gn mn cpn w5 hres5 hA5
  replace hres5 := qh hres5
  clear hA4 hres2
  have hA6 := hA5.alloc [.int .i64 kn, .string ⟨txn.toArray⟩, .int .i64 nn, .int .i64 an, .slice gn mn cpn] 24
  have hNB : B ≠ w5.heap.size := fun e => (List.nodup_cons.1 hA6.nd).1 (by simp [e])
  go_wp2_with fail
  generalize hw6 : w5.alloc _ = w6 at hA6 ⊢
  clear hw6
  generalize w5.heap.size = N at hA6 hNB ⊢
  clear hA5
  have hA7 := hA6.drew
  have s7 := And.intro hA7.swap.c3.1.1.2 hA7.c5.1.1
  have hcon := fun hn => Q7b pb pb tb c jn lv T w6.drew Tru 35 #[.pointer (some ⟨pb, 0, none⟩)] #[] (rd Q0 T f .cond) (fun _ _ => rfl) hA7.ps hA7.ps.pos (by omega) (Q4l _ _) hn (fun hd W i hp ho hn => hcond.out (lv + 1) (by omega) W i hp hn)
  have aS : ∀ W' : World, ∀ o, M < W'.heap.size → N < W'.heap.size → ((W'.cell? ⟨M, 1, none⟩ = some (.string ⟨(tk T i).text.toArray⟩) ∧ W'.cell? ⟨M, 2, none⟩ = some (.int .i64 (tk T i).pos)) ∧ W'.cell? ⟨N, 0, none⟩ = some (.int .i64 kn) ∧ W'.cell? ⟨N, 1, none⟩ = some (.string ⟨txn.toArray⟩) ∧ W'.cell? ⟨N, 2, none⟩ = some (.int .i64 nn) ∧ W'.cell? ⟨N, 3, none⟩ = some (.int .i64 an) ∧ W'.cell? ⟨N, 4, none⟩ = some (.slice gn mn cpn)) →
    ((W'.alloc o).cell? ⟨M, 1, none⟩ = some (.string ⟨(tk T i).text.toArray⟩) ∧ (W'.alloc o).cell? ⟨M, 2, none⟩ = some (.int .i64 (tk T i).pos)) ∧ (W'.alloc o).cell? ⟨N, 0, none⟩ = some (.int .i64 kn) ∧ (W'.alloc o).cell? ⟨N, 1, none⟩ = some (.string ⟨txn.toArray⟩) ∧ (W'.alloc o).cell? ⟨N, 2, none⟩ = some (.int .i64 nn) ∧ (W'.alloc o).cell? ⟨N, 3, none⟩ = some (.int .i64 an) ∧ (W'.alloc o).cell? ⟨N, 4, none⟩ = some (.slice gn mn cpn) := fun W' o hM hN h => by
   simp only [Q1k hM, Q1k hN]; exact h
  have aY : ∀ W' : World, ∀ v0 v1 v2 v3 v4, ((W'.cell? ⟨M, 1, none⟩ = some (.string ⟨(tk T i).text.toArray⟩) ∧ W'.cell? ⟨M, 2, none⟩ = some (.int .i64 (tk T i).pos)) ∧ W'.cell? ⟨N, 0, none⟩ = some (.int .i64 kn) ∧ W'.cell? ⟨N, 1, none⟩ = some (.string ⟨txn.toArray⟩) ∧ W'.cell? ⟨N, 2, none⟩ = some (.int .i64 nn) ∧ W'.cell? ⟨N, 3, none⟩ = some (.int .i64 an) ∧ W'.cell? ⟨N, 4, none⟩ = some (.slice gn mn cpn)) →
    ((setSyn W' B v0 v1 v2 v3 v4).cell? ⟨M, 1, none⟩ = some (.string ⟨(tk T i).text.toArray⟩) ∧ (setSyn W' B v0 v1 v2 v3 v4).cell? ⟨M, 2, none⟩ = some (.int .i64 (tk T i).pos)) ∧ (setSyn W' B v0 v1 v2 v3 v4).cell? ⟨N, 0, none⟩ = some (.int .i64 kn) ∧ (setSyn W' B v0 v1 v2 v3 v4).cell? ⟨N, 1, none⟩ = some (.string ⟨txn.toArray⟩) ∧ (setSyn W' B v0 v1 v2 v3 v4).cell? ⟨N, 2, none⟩ = some (.int .i64 nn) ∧ (setSyn W' B v0 v1 v2 v3 v4).cell? ⟨N, 3, none⟩ = some (.int .i64 an) ∧ (setSyn W' B v0 v1 v2 v3 v4).cell? ⟨N, 4, none⟩ = some (.slice gn mn cpn) := fun W' v0 v1 v2 v3 v4 h => by
   simp only [Q1e hMB.symm, Q1e hNB.symm]; exact h
  replace aS := qh aS
  replace aY := qh aY
  go_region_held2 (fun W' => (W'.cell? ⟨M, 1, none⟩ = some (.string ⟨(tk T i).text.toArray⟩) ∧ W'.cell? ⟨M, 2, none⟩ = some (.int .i64 (tk T i).pos)) ∧ W'.cell? ⟨N, 0, none⟩ = some (.int .i64 kn) ∧ W'.cell? ⟨N, 1, none⟩ = some (.string ⟨txn.toArray⟩) ∧ W'.cell? ⟨N, 2, none⟩ = some (.int .i64 nn) ∧ W'.cell? ⟨N, 3, none⟩ = some (.int .i64 an) ∧ W'.cell? ⟨N, 4, none⟩ = some (.slice gn mn cpn))
   (with_reducible first | exact s7 | exact s8 | exact aS.out _ _ lM lN s8 | exact aY.out _ _ _ _ _ _ (aS.out _ _ lM lN s8))
   (first | (go_at_call 190; (with_reducible refine hA7.cRdr hres5.out hne hcon ?_ ?_); exact fun _ _ h => ⟨rfl, h⟩; intro k2 tx2 n2 a2 kids2 j2 g2 m2 cp2 w8 hres8 hA8; replace hres8 := qh hres8; have s8 := And.intro hA8.swap.c3.1.1.2 hA8.c5.1.1; have lM := hA8.swap.c3.2; have lN := hA8.c5.2.1; have hsb := (hA8.perm (List.Perm.swap _ _ _)).drop.swap.blk))
  rename_i hH; clear hH
  have hAz := (hA8.slice2 (k := kn) (n := nn) (a := an) (tx := txn) (k' := k2) (n' := n2) (a' := a2) (tx' := tx2) (List.mem_cons_of_mem _ (List.mem_cons_self ..)) (List.mem_cons_self ..)).drop.swap.setSyn (.int .i64 13) (.string ⟨(tk T i).text.toArray⟩) (.int .i64 0) (.int .i64 (tk T i).pos) (.slice (some ⟨w8.heap.size, 0, none⟩) 2 2)
  generalize setSyn (World.alloc w8 _) _ _ _ _ _ _ = w9 at hAz ⊢
  obtain ⟨⟨⟨r0, r1, r2, r3, r4⟩, _⟩, _, _⟩ := hAz.c5
  have hout := qh (hAz.out (k := 13) (tx := (tk T i).text) (n := 0) (a := (tk T i).pos) (List.mem_cons_self ..))
  clear hAz hA8 s8 lM lN hsb s7 hA7 hA6 hcon aS aY hsum hcond
  go_wp21
  exact bodyPost_ret (v := .agg #[.int .i64 13, .string ⟨(tk T i).text.toArray⟩, .int .i64 0, .int .i64 (tk T i).pos, .slice (some ⟨w8.heap.size, 0, none⟩) 2 2]) (by simp [results, Tryz.results188, go_sem, r0, r1, r2, r3, r4]) rfl (hres8.out ▸ hout.out)
 intro hb w2 hA2
 replace hres := qh (hres.out.trans (if_neg (by rw [hb]; decide)))
 clear hb hA
 go_wp2_with fail
 have hA := hA2
 clear hA2
 refine hA.cIs [[40]] (by simp) rfl rfl (by simp) ?_ ?_
 rotate_left
 ·intro hb w2 hA2
  have hres2 := qh (hres.out.trans (if_pos hb))
  clear hb
  go_wp2_with fail
  refine hA2.cRdr (hres2.out.trans (Out.bind_ok _)) hne (fun hn => Q7b pb pb tb c i lv T _ Tru 35 #[.pointer (some ⟨pb, 0, none⟩)] #[] (rd Q0 T f .cond) (fun _ _ => rfl) hA2.ps hA2.ps.pos (by omega) (Q4l _ _) hn (fun hd W i hp ho hn => hcond.out (lv + 1) (by omega) W i hp hn)) (fun _ _ h => ⟨rfl, h⟩) ?_
  intro kd tx n a kids j g m cp w4 hres4 hA4
  replace hres4 := qh hres4
  clear hA2
  have hsb := hA4.blk
  have hAz := hA4.setSyn (.int .i64 kd) (.string ⟨List.toArray (tx)⟩) (.int .i64 n) (.int .i64 a) (.slice g m cp)
  obtain ⟨⟨⟨s0, s1, s2, s3, s4⟩, _⟩, _, _⟩ := hAz.c5
  have hout := qh (hAz.out (k := kd) (tx := tx) (n := n) (a := a) (List.mem_cons_self ..))
  clear hAz
  go_wp21
  exact bodyPost_ret (v := .agg #[.int .i64 kd, .string ⟨List.toArray (tx)⟩, .int .i64 n, .int .i64 a, .slice g m cp]) (by simp [results, Tryz.results188, go_sem, s0, s1, s2, s3, s4]) rfl (hres4.out ▸ hout.out)
 intro hb w2 hA2
 replace hres := qh (hres.out.trans (if_neg (by rw [hb]; decide)))
 clear hb hA
 go_wp2_with fail
 have hA := hA2
 clear hA2
 refine hA.cRdr (hres.out.trans (Out.bind_ok _)) hne (fun _ => Q73 pb tb c i lv T _ hA.ps) (fun _ _ h => ⟨rfl, h⟩) ?_
 intro kd tx n a kids j g m cp w4 hres4 hA4
 replace hres4 := qh hres4
 clear hA
 have hsb := hA4.blk
 have hAz := hA4.setSyn (.int .i64 kd) (.string ⟨List.toArray (tx)⟩) (.int .i64 n) (.int .i64 a) (.slice g m cp)
 obtain ⟨⟨⟨s0, s1, s2, s3, s4⟩, _⟩, _, _⟩ := hAz.c5
 have hout := qh (hAz.out (k := kd) (tx := tx) (n := n) (a := a) (List.mem_cons_self ..))
 clear hAz
 go_wp21
 exact bodyPost_ret (v := .agg #[.int .i64 kd, .string ⟨List.toArray (tx)⟩, .int .i64 n, .int .i64 a, .slice g m cp]) (by simp [results, Tryz.results188, go_sem, s0, s1, s2, s3, s4]) rfl (hres4.out ▸ hout.out)
end
section
attribute [local go_sem ↓] Go.wp_at_zero Go.wp_at_succ Q48
theorem Qtn (k n p : Int) (s : ByteArray) (g : Option Addr) (m c : Nat) (w : World) : (Instr.field 24 (.agg #[.int .i64 k, .string s, .int .i64 n, .int .i64 p, .slice g m c]) 1).run Tryz.prog w = .ok (.string s) w := by
 unfold Instr.field
 rw [Sem.run_bind, run_underlying Tryz.underlying24 w]
 simp [go_sem, Go.part, asAgg]
attribute [local go_sem] Qtn
section
variable (T : List Tok) (f lv : Nat)
end
end
section
attribute [local go_sem ↓] Go.wp_at_zero Go.wp_at_succ Q48
end
def rdFn : NT → Nat
 | .cond => 35
 | .conj => 70
 | .neg => 125
 | .sum => 161
 | .unit => 188
 | .scheme => 36
 | .term => 71
 | .factor => 126
 | .atom => 162
 | .formula => 37
 | .disj => 72
 | .meet => 127
 | .lit => 163
theorem Qbr (pb tb c : Nat) (T : List Tok) (f : Nat) : ∀ nt lv, lv ≤ 128 → RdAt pb tb c T (rdFn nt) (rd Q0 T f nt) lv := by
 induction f with
 | zero => intro nt lv _ W i _ hn; exact absurd rfl hn
 | succ f ih =>
  intro nt lv hl W i hp hn
  cases nt with
  | cond => exact Qr8 pb tb c lv i T W _ hp hn (ih .conj lv hl)
  | conj => exact Qqe pb tb c lv i T W _ hp hn (ih .neg lv hl)
  | neg => exact Qm3 pb tb c lv i f T W hp hl hn (ih .neg) (ih .cond) (ih .sum)
  | sum => exact Qix pb tb c lv i T W _ hp hn (ih .unit lv hl)
  | unit => exact Qqz pb tb c lv i f T W hp hl hn (ih .sum) (ih .cond)
  | scheme => exact Qov pb tb c lv i T W _ hp hn (ih .term lv hl)
  | term => exact Qmk pb tb c lv i T W _ hp hn (ih .factor lv hl)
  | factor => exact Qnt pb tb c lv i f T W hp hl hn (ih .atom) (ih .factor)
  | atom => exact Qpo pb tb c lv i f T W hp hl hn (ih .cond) (ih .scheme)
  | formula => exact Qo9 pb tb c lv i f T W hp hl hn (ih .disj) (ih .formula)
  | disj => exact Qlq pb tb c lv i T W _ hp hn (ih .meet lv hl)
  | meet => exact Qqc pb tb c lv i T W _ hp hn (ih .lit lv hl)
  | lit => exact Qt9 pb tb c lv i f T W hp hl hn (ih .lit) (ih .formula)
end Go.Proofs.YtplbfmcgddnkeaaGreatDoor
