/- Joined: ParQ. -/
import Derived.Test.YtplbfmcgddnkeaaGreatDoorK30
import Derived.Test.YtplbfmcgddnkeaaGreatDoorK31
set_option linter.unusedVariables false
set_option linter.unusedSimpArgs false
section
set_option maxHeartbeats 1000000
set_option maxRecDepth 100000
namespace Go.Proofs.YtplbfmcgddnkeaaGreatDoor
open Go.RowKit
attribute [local go_sem ↓] Go.wp_at_zero Go.wp_at_succ app_open
theorem Out.ok_bind {α β : Type} (a : α) (i : Nat) (f : α → Nat → Out β) : (Out.ok a i).bind f = f a i := rfl
theorem Out.ite_bind {α β : Type} (c : Prop) [Decidable c] (x y : Out α) (f : α → Nat → Out β) : (if c then x else y).bind f = if c then x.bind f else y.bind f := by split <;> rfl
theorem fail_bind {α β : Type} (T : List Tok) (e i : Nat) (f : α → Nat → Out β) : (fail T e i : Out α).bind f = fail T e i := rfl
theorem run_field_syn1 (k n p : Int) (s : ByteArray) (g : Option Addr) (m c : Nat) (w : World) : (Instr.field 24 (.agg #[.int .i64 k, .string s, .int .i64 n, .int .i64 p, .slice g m c]) 1).run Tryz.prog w = .ok (.string s) w := by
  unfold Instr.field
  rw [Sem.run_bind, run_underlying Tryz.underlying24 w]
  simp [go_sem, Go.part, asAgg]
attribute [local go_sem] run_field_syn1
section
variable (T : List Tok) (f lv : Nat)
def dFin (x : Syn) (j : Nat) : Out Syn := (need T [59] j).bind fun _ j => .ok x j
def dCalm (mk : List Syn → Syn) (ys : List Syn) (j : Nat) : Out Syn := if isW T [[99, 97, 108, 109]] j then (part reservedB T f 4 lv j).bind fun z j => dFin T (mk (ys ++ [z])) j else dFin T (mk ys) j
def dAllow (mk : List Syn → Syn) (xs : List Syn) (j : Nat) : Out Syn := if isW T [[97, 108, 108, 111, 119]] j then (part reservedB T f 3 lv j).bind fun y j => dCalm T f lv mk (xs ++ [y]) j else fail T 4 j
def dWhere (mk : List Syn → Syn) (b : Syn) (j : Nat) : Out Syn := if isW T [[119, 104, 101, 114, 101]] j then (part reservedB T f 2 lv j).bind fun x j => dAllow T f lv mk ([b] ++ [x]) j else dAllow T f lv mk [b] j
theorem decl_eq (i : Nat) : declaration reservedB T f lv i =
    if isW T [[116, 97, 115, 107]] i then
      (name reservedB T (nx T i)).bind fun nm j => (need T [105, 110, 112, 117, 116, 115] j).bind fun _ j => (number T j).bind fun a j => (need T [111, 117, 116, 112, 117, 116, 115] j).bind fun _ j =>
      (number T j).bind fun b j => dWhere T f lv (fun ys => .mk 1 nm.text a.num (tk T i).pos ys) b j
    else if isW T [[97, 100, 118, 101, 114, 115, 97, 114, 121]] i then
      (name reservedB T (nx T i)).bind fun nm j => (need T [61] j).bind fun _ j => (rd reservedB T f .scheme lv j).bind fun x j => dFin T (.mk 5 nm.text 0 (tk T i).pos [x]) j
    else if isW T [[102, 111, 114, 109, 117, 108, 97]] i then
      (name reservedB T (nx T i)).bind fun nm j => (need T [61] j).bind fun _ j => (rd reservedB T f .formula lv j).bind fun x j => dFin T (.mk 6 nm.text 0 (tk T i).pos [x]) j
    else if isW T [[112, 114, 111, 98, 108, 101, 109]] i then
      (name reservedB T (nx T i)).bind fun nm j => (need T [61] j).bind fun _ j => (name reservedB T j).bind fun a j => (need T [117, 110, 100, 101, 114] j).bind fun _ j => (name reservedB T j).bind fun b j =>
      (need T [114, 111, 117, 110, 100, 115] j).bind fun _ j => (number T j).bind fun n j => dFin T (.mk 7 nm.text n.num (tk T i).pos ([a] ++ [b])) j
    else fail T 4 i := by
  unfold declaration dWhere dAllow dCalm dFin optPart
  simp only [Out.ite_bind, Out.bind_assoc, Out.ok_bind, fail_bind]
  rfl
end
theorem pdeclaration_any (pb tb c lv i f : Nat) (T : List Tok) (w : World) (h : PS pb tb c T i lv w) (hl : lv ≤ 128) (hne : declaration reservedB T f lv i ≠ .none)
    (hcond : ∀ lv, lv ≤ 128 → RdAt pb tb c T 35 (rd reservedB T f .cond) lv)
    (hsch : ∀ lv, lv ≤ 128 → RdAt pb tb c T 36 (rd reservedB T f .scheme) lv)
    (hfor : ∀ lv, lv ≤ 128 → RdAt pb tb c T 37 (rd reservedB T f .formula) lv) :
    Calls Tryz.prog 68 #[.pointer (some ⟨pb, 0, none⟩)] w (POut pb tb c lv T w (declaration reservedB T f lv i)) := by
  have hA := (At.begin h).alloc z5 24
  have hres := Lib.hid (decl_eq T f lv i)
  have hpart := Lib.hid (fun kind j W (hp : PS pb tb c T j lv W) hn => ppart_any pb tb c lv j f kind T W hp hl hn hcond)
  have hlt := h.lt
  have hsz := h.size
  have hi0 : (0 : Int) ≤ (i : Int) := by omega
  have hi1 : (i : Int) < (T.length : Int) := by omega
  replace hsch := Lib.hid (hsch lv hl)
  replace hfor := Lib.hid (hfor lv hl)
  clear h hcond
  generalize declaration reservedB T f lv i = o at hres hne ⊢
  generalize hB : w.heap.size = B at *
  go_enter Tryz.func68, Tryz.ntmps68
  go_wp2_with fail
  have hA2 := hA.drew
  have hs := hA2.here
  generalize hw1 : w.alloc _ = w1 at hA hA2 hs ⊢
  clear hw1
  have hs2 := (hA.junk (.cells #[.int .i64 0, .string ⟨#[]⟩, .int .i64 0, .int .i64 0, .slice none 0 0] 24)).drew.here
  have hA3 := (hA.alloc z5 24).drew.setSyn (.int .i64 0) (.string ⟨#[]⟩) (.int .i64 0) (.int .i64 (tk T i).pos) (.slice none 0 0)
  have hs3 := hA3.here
  unfold Here at hs hs2 hs3
  go_region_held2 (fun W => W.cell? ⟨pb, 0, none⟩ = some (.slice (some ⟨tb, 0, none⟩) T.length c) ∧ W.cell? ⟨pb, 1, none⟩ = some (.int .i64 i) ∧ W.cell? ⟨tb, i * 3, none⟩ = some (.int .i64 (tk T i).kind) ∧ W.cell? ⟨tb, i * 3 + 1, none⟩ = some (.string ⟨(tk T i).text.toArray⟩) ∧ W.cell? ⟨tb, i * 3 + 2, none⟩ = some (.int .i64 (tk T i).pos)) (with_reducible first | exact hs | exact hs2 | exact hs3) (fail)
  rename_i hH; clear hH
  generalize setSyn (World.drew (World.alloc w1 _)) _ _ _ _ _ _ = w3 at hA3 ⊢
  generalize w1.heap.size = M at hA3 ⊢
  clear hs hs2 hs3 hA2 hA
  clear w1
  generalize hp : (tk T i).pos = p at hres hA3 ⊢
  clear hp
  go_wp2_with fail
  refine hA3.cIs [[116, 97, 115, 107]] (by simp) rfl rfl (by simp) ?_ ?_
  rotate_left
  · skip
    intro hb w5 hA5
    have hres5 := Lib.hid (hres.out.trans (if_pos hb))
    clear hb hA3 hres
    go_wp2_with fail
    refine hA5.cNext ?_
    intro w6 hA6
    clear hA5
    go_wp2_with fail
    refine hA6.cRdr hres5.out hne (fun _ => pname_any pb tb c _ lv T _ hA6.ps) (fun _ _ h => ⟨rfl, h⟩) ?_
    intro kn txn nn an kidsn jn gn mn cpn w7 hres7 hA7
    replace hres7 := Lib.hid hres7
    clear hA6 hres5
    have hc7 := hA7.c5
    have hA8 := ((hA7.set0 (.int .i64 1)).set1 (.string ⟨txn.toArray⟩)).weak (ts' := []) (fun _ h => (List.not_mem_nil h).elim)
    clear hA7
    go_wp2_with fail
    clear hc7
    generalize World.setCell (World.setCell w7 _ _) _ _ = w8 at hA8 ⊢
    clear w7
    refine hA8.cNeed hres7.out (fun _ _ h => ⟨rfl, h⟩) ?_
    intro w9 hres9 hA9
    replace hres9 := Lib.hid hres9
    clear hA8 hres7
    go_wp2_with fail
    refine hA9.cRdr hres9.out hne (fun _ => pnumber_any pb tb c _ lv T _ hA9.ps) (fun _ _ h => ⟨rfl, h⟩) ?_
    intro k3 tx3 n3 a3 kids3 j3 g3 m3 cp3 w17 hres17 hA17
    replace hres17 := Lib.hid hres17
    clear hA9 hres9
    have hc17 := hA17.c5
    have hA18 := (hA17.set2 (.int .i64 n3)).weak (ts' := []) (fun _ h => (List.not_mem_nil h).elim)
    clear hA17
    go_wp2_with fail
    clear hc17
    generalize World.setCell w17 _ _ = w18 at hA18 ⊢
    clear w17
    refine hA18.cNeed hres17.out (fun _ _ h => ⟨rfl, h⟩) ?_
    intro w14 hres14 hA14
    replace hres14 := Lib.hid hres14
    clear hA18 hres17
    go_wp2_with fail
    refine hA14.cRdr hres14.out hne (fun _ => pnumber_any pb tb c _ lv T _ hA14.ps) (fun _ _ h => ⟨rfl, h⟩) ?_
    intro kd tx n a kids j g m cp w10 hres10 hA10
    replace hres10 := Lib.hid hres10
    clear hA14 hres14
    have hA11 := hA10.open1 (k := kd) (tx := tx) (n := n) (a := a) (List.mem_cons_self ..)
    have hc11 := hA11.c5
    have hA12 := (hA11.set4 (.slice (some ⟨w10.heap.size, 0, none⟩) 1 1)).weak (ts' := []) (fun _ h => (List.not_mem_nil h).elim)
    clear hA10 hA11
    go_wp2_with fail
    clear hc11
    generalize hw12 : World.setCell (World.alloc w10 _) _ _ = w12 at hA12 ⊢
    have hz12 : w10.heap.size + 1 = w12.heap.size := by rw [← hw12]; simp [World.setCell]
    clear hw12
    generalize w10.heap.size = G at hA12 hz12 ⊢
    clear w10
    replace hres10 := Lib.hid (show o = dWhere T f lv (fun ys => .mk 1 txn n3 p ys) (.mk kd tx n a kids) j from hres10.out)
    clear hsch hfor
    refine hA12.cIs [[119, 104, 101, 114, 101]] (by simp) rfl rfl hz12 ?_ ?_
    · intro hb w13 hA13
      have hres13 := Lib.hid (show o = dAllow T f lv (fun ys => .mk 1 txn n3 p ys) [.mk kd tx n a kids] j from hres10.out.trans (if_neg (by rw [hb]; decide)))
      clear hb hA12 hres10 hz12
      go_wp2_with fail
      have hAL := hA13
      clear hA13
      refine hAL.cIs [[97, 108, 108, 111, 119]] (by simp) rfl rfl (by simp) ?_ ?_
      · intro hb w20 hA20
        have hres20 := Lib.hid (hres13.out.trans (if_neg (by rw [hb]; decide)))
        go_wp2_with fail
        refine hA20.cFail 4 ?_
        intro w21 ho
        exact ⟨rfl, hA20.err ho hres20.out⟩
      · intro hb w20 hA20
        have hres20 := Lib.hid (hres13.out.trans (if_pos hb))
        clear hb hAL hres13
        go_wp2_with fail
        have hconA := hpart.out 3 _ _ hA20.drew.ps
        have hA10 : At _ _ _ _ _ _ _ _ _ (_, Value.slice (some ⟨G, 0, none⟩) 1 1) _ _ := hA20.drew
        generalize hvr : Value.slice (some ⟨G, 0, none⟩) 1 1 = vrow at hA10
        clear hvr
        have hc10 := hA10.c5
        have hcon := hconA
        refine' cut_in ?kk ?ff
        case ff =>
          intro key
          go_region_with (first
            | (go_at_call 124; (with_reducible refine hA10.cRdr hres20.out hne hcon ?_ ?_); exact fun _ _ h => ⟨rfl, h⟩; intro k2 tx2 n2 a2 kids2 j2 g2 m2 cp2 w11 hres11 hA11; replace hres11 := Lib.hid hres11; have hc11 := hA11.c5)
            | (refine At.stepApp' (hA11.junk _) (by simp) (List.mem_cons_self ..) (heap_alloc_new _ _) (by rfl) (by rfl) (by rfl) (by rfl) ?_; intro g12 cap12 w12 hA12; have hc12 := hA12.c5))
          all_goals
            have hA13 := hA12.set4 (.slice (some ⟨g12, 0, none⟩) (2) cap12)
            generalize World.setCell w12 _ _ = w13 at hA13 ⊢
            clear hA11 hA12 hc12 hc11
            generalize Value.slice (some { block := w11.heap.size, off := 0 }) 1 1 = s22 at ⊢
            clear w11 w12
            revert hA13
            revert hres11
            revert w13
            revert s22
            revert g12
            revert cap12
            revert cp2 m2 g2 j2 kids2 a2 n2 tx2 k2
            exact key.out
        case kk =>
          intro ka txa na aa kidsa ja ga ma cpa capa g30 sa w30 hres30 hA30
          clear hA10 hc10 hcon hA20 hconA hres20
          have hA31 := hA30.weak (ts' := []) (fun _ h => (List.not_mem_nil h).elim)
          clear hA30
          go_wp2_with fail
          refine hA31.cIs [[99, 97, 108, 109]] (by simp) rfl rfl (by simp) ?_ ?_
          · intro hb w32 hA32
            have hres32 := Lib.hid (hres30.out.trans (if_neg (by rw [hb]; decide)))
            clear hb hA31 hres30
            go_wp2_with fail
            refine hA32.cNeed hres32.out (fun _ _ h => ⟨rfl, h⟩) ?_
            intro w20 hres20 hA20
            replace hres20 := Lib.hid hres20
            have hc20 := hA20.c5
            have hA21 := hA20.close.swap
            clear hA20 hA32
            have hsb := hA21.blk
            have hAz := hA21.setSyn (.int .i64 1) (.string ⟨List.toArray (txn)⟩) (.int .i64 n3) (.int .i64 p) (.slice (some ⟨g30, 0, none⟩) 2 capa)
            obtain ⟨⟨⟨s0, s1, s2, s3, s4⟩, _⟩, _, _⟩ := hAz.c5
            have hout := Lib.hid (hAz.out (k := 1) (tx := txn) (n := n3) (a := p) (List.mem_cons_self ..))
            clear hAz
            go_wp21
            exact bodyPost_ret (v := .agg #[.int .i64 1, .string ⟨List.toArray (txn)⟩, .int .i64 n3, .int .i64 p, .slice (some ⟨g30, 0, none⟩) 2 capa]) (by simp [results, Tryz.results68, go_sem, s0, s1, s2, s3, s4]) rfl (hres20.out ▸ hout.out)
          · intro hb w32 hA32
            have hres32 := Lib.hid (hres30.out.trans (if_pos hb))
            clear hb hA31 hres30
            go_wp2_with fail
            have hconB := hpart.out 4 _ _ hA32.drew.ps
            have hA10 : At _ _ _ _ _ _ _ _ _ (_, Value.slice (some ⟨g30, 0, none⟩) (2) capa) _ _ := hA32.drew
            generalize hvr : Value.slice (some ⟨g30, 0, none⟩) (2) capa = vrow at hA10
            clear hvr
            have hc10 := hA10.c5
            have hcon := hconB
            refine' cut_in ?kk ?ff
            case ff =>
              intro key
              go_region_with (first
                | (go_at_call 124; (with_reducible refine hA10.cRdr hres32.out hne hcon ?_ ?_); exact fun _ _ h => ⟨rfl, h⟩; intro k2 tx2 n2 a2 kids2 j2 g2 m2 cp2 w11 hres11 hA11; replace hres11 := Lib.hid hres11; have hc11 := hA11.c5)
                | (refine At.stepApp' (hA11.junk _) (by simp) (List.mem_cons_self ..) (heap_alloc_new _ _) (by rfl) (by rfl) (by rfl) (by rfl) ?_; intro g12 cap12 w12 hA12; have hc12 := hA12.c5))
              all_goals
                have hA13 := hA12.set4 (.slice (some ⟨g12, 0, none⟩) (3) cap12)
                generalize World.setCell w12 _ _ = w13 at hA13 ⊢
                clear hA11 hA12 hc12 hc11
                generalize Value.slice (some { block := w11.heap.size, off := 0 }) 1 1 = s22 at ⊢
                clear w11 w12
                revert hA13
                revert hres11
                revert w13
                revert s22
                revert g12
                revert cap12
                revert cp2 m2 g2 j2 kids2 a2 n2 tx2 k2
                exact key.out
            case kk =>
              intro kb txb nb ab kidsb jb gb mb cpb capb g40 sb w40 hres40 hA40
              clear hA10 hc10 hcon hA32 hconB hres32
              have hA41 := hA40.weak (ts' := []) (fun _ h => (List.not_mem_nil h).elim)
              clear hA40
              go_wp2_with fail
              refine hA41.cNeed hres40.out (fun _ _ h => ⟨rfl, h⟩) ?_
              intro w20 hres20 hA20
              replace hres20 := Lib.hid hres20
              have hc20 := hA20.c5
              have hA21 := hA20.close.swap
              clear hA20 hA41
              have hsb := hA21.blk
              have hAz := hA21.setSyn (.int .i64 1) (.string ⟨List.toArray (txn)⟩) (.int .i64 n3) (.int .i64 p) (.slice (some ⟨g40, 0, none⟩) 3 capb)
              obtain ⟨⟨⟨s0, s1, s2, s3, s4⟩, _⟩, _, _⟩ := hAz.c5
              have hout := Lib.hid (hAz.out (k := 1) (tx := txn) (n := n3) (a := p) (List.mem_cons_self ..))
              clear hAz
              go_wp21
              exact bodyPost_ret (v := .agg #[.int .i64 1, .string ⟨List.toArray (txn)⟩, .int .i64 n3, .int .i64 p, .slice (some ⟨g40, 0, none⟩) 3 capb]) (by simp [results, Tryz.results68, go_sem, s0, s1, s2, s3, s4]) rfl (hres20.out ▸ hout.out)
    · intro hb w13 hA13
      have hres13 := Lib.hid (show o = (part reservedB T f 2 lv j).bind fun x j => dAllow T f lv (fun ys => .mk 1 txn n3 p ys) ([.mk kd tx n a kids] ++ [x]) j from hres10.out.trans (if_pos hb))
      clear hb hA12 hres10 hz12
      go_wp2_with fail
      have hcon1 := hpart.out 2 j _ hA13.drew.ps
      have hA10 : At _ _ _ _ _ _ _ _ _ (_, Value.slice (some ⟨G, 0, none⟩) 1 1) _ _ := hA13.drew
      generalize hvr : Value.slice (some ⟨G, 0, none⟩) 1 1 = vrow at hA10
      clear hvr
      have hc10 := hA10.c5
      have hcon := hcon1
      refine' cut_in ?kk ?ff
      case ff =>
        intro key
        go_region_with (first
          | (go_at_call 124; (with_reducible refine hA10.cRdr hres13.out hne hcon ?_ ?_); exact fun _ _ h => ⟨rfl, h⟩; intro k2 tx2 n2 a2 kids2 j2 g2 m2 cp2 w11 hres11 hA11; replace hres11 := Lib.hid hres11; have hc11 := hA11.c5)
          | (refine At.stepApp' (hA11.junk _) (by simp) (List.mem_cons_self ..) (heap_alloc_new _ _) (by rfl) (by rfl) (by rfl) (by rfl) ?_; intro g12 cap12 w12 hA12; have hc12 := hA12.c5))
        all_goals
          have hA13 := hA12.set4 (.slice (some ⟨g12, 0, none⟩) (2) cap12)
          generalize World.setCell w12 _ _ = w13 at hA13 ⊢
          clear hA11 hA12 hc12 hc11
          generalize Value.slice (some { block := w11.heap.size, off := 0 }) 1 1 = s22 at ⊢
          clear w11 w12
          revert hA13
          revert hres11
          revert w13
          revert s22
          revert g12
          revert cap12
          revert cp2 m2 g2 j2 kids2 a2 n2 tx2 k2
          exact key.out
      case kk =>
        intro k2 tx2 n2 a2 kids2 jw g2 m2 cp2 cap12 g12 s22 wq hres11 hAq
        clear hA10 hc10 hcon hcon1 hres13 hA13
        have hAL := hAq.weak (ts' := []) (fun _ h => (List.not_mem_nil h).elim)
        have hres13 := hres11
        clear hAq hres11
        go_wp2_with fail
        refine hAL.cIs [[97, 108, 108, 111, 119]] (by simp) rfl rfl (by simp) ?_ ?_
        · intro hb w20 hA20
          have hres20 := Lib.hid (hres13.out.trans (if_neg (by rw [hb]; decide)))
          go_wp2_with fail
          refine hA20.cFail 4 ?_
          intro w21 ho
          exact ⟨rfl, hA20.err ho hres20.out⟩
        · intro hb w20 hA20
          have hres20 := Lib.hid (hres13.out.trans (if_pos hb))
          clear hb hAL hres13
          go_wp2_with fail
          have hconA := hpart.out 3 _ _ hA20.drew.ps
          have hA10 : At _ _ _ _ _ _ _ _ _ (_, Value.slice (some ⟨g12, 0, none⟩) 2 cap12) _ _ := hA20.drew
          generalize hvr : Value.slice (some ⟨g12, 0, none⟩) 2 cap12 = vrow at hA10
          clear hvr
          have hc10 := hA10.c5
          have hcon := hconA
          refine' cut_in ?kk ?ff
          case ff =>
            intro key
            go_region_with (first
              | (go_at_call 124; (with_reducible refine hA10.cRdr hres20.out hne hcon ?_ ?_); exact fun _ _ h => ⟨rfl, h⟩; intro k2 tx2 n2 a2 kids2 j2 g2 m2 cp2 w11 hres11 hA11; replace hres11 := Lib.hid hres11; have hc11 := hA11.c5)
              | (refine At.stepApp' (hA11.junk _) (by simp) (List.mem_cons_self ..) (heap_alloc_new _ _) (by rfl) (by rfl) (by rfl) (by rfl) ?_; intro g12 cap12 w12 hA12; have hc12 := hA12.c5))
            all_goals
              have hA13 := hA12.set4 (.slice (some ⟨g12, 0, none⟩) (3) cap12)
              generalize World.setCell w12 _ _ = w13 at hA13 ⊢
              clear hA11 hA12 hc12 hc11
              generalize Value.slice (some { block := w11.heap.size, off := 0 }) 1 1 = s22 at ⊢
              clear w11 w12
              revert hA13
              revert hres11
              revert w13
              revert s22
              revert g12
              revert cap12
              revert cp2 m2 g2 j2 kids2 a2 n2 tx2 k2
              exact key.out
          case kk =>
            intro ka txa na aa kidsa ja ga ma cpa capa g30 sa w30 hres30 hA30
            clear hA10 hc10 hcon hA20 hconA hres20
            have hA31 := hA30.weak (ts' := []) (fun _ h => (List.not_mem_nil h).elim)
            clear hA30
            go_wp2_with fail
            refine hA31.cIs [[99, 97, 108, 109]] (by simp) rfl rfl (by simp) ?_ ?_
            · intro hb w32 hA32
              have hres32 := Lib.hid (hres30.out.trans (if_neg (by rw [hb]; decide)))
              clear hb hA31 hres30
              go_wp2_with fail
              refine hA32.cNeed hres32.out (fun _ _ h => ⟨rfl, h⟩) ?_
              intro w20 hres20 hA20
              replace hres20 := Lib.hid hres20
              have hc20 := hA20.c5
              have hA21 := hA20.close.swap
              clear hA20 hA32
              have hsb := hA21.blk
              have hAz := hA21.setSyn (.int .i64 1) (.string ⟨List.toArray (txn)⟩) (.int .i64 n3) (.int .i64 p) (.slice (some ⟨g30, 0, none⟩) 3 capa)
              obtain ⟨⟨⟨s0, s1, s2, s3, s4⟩, _⟩, _, _⟩ := hAz.c5
              have hout := Lib.hid (hAz.out (k := 1) (tx := txn) (n := n3) (a := p) (List.mem_cons_self ..))
              clear hAz
              go_wp21
              exact bodyPost_ret (v := .agg #[.int .i64 1, .string ⟨List.toArray (txn)⟩, .int .i64 n3, .int .i64 p, .slice (some ⟨g30, 0, none⟩) 3 capa]) (by simp [results, Tryz.results68, go_sem, s0, s1, s2, s3, s4]) rfl (hres20.out ▸ hout.out)
            · intro hb w32 hA32
              have hres32 := Lib.hid (hres30.out.trans (if_pos hb))
              clear hb hA31 hres30
              go_wp2_with fail
              have hconB := hpart.out 4 _ _ hA32.drew.ps
              have hA10 : At _ _ _ _ _ _ _ _ _ (_, Value.slice (some ⟨g30, 0, none⟩) (3) capa) _ _ := hA32.drew
              generalize hvr : Value.slice (some ⟨g30, 0, none⟩) (3) capa = vrow at hA10
              clear hvr
              have hc10 := hA10.c5
              have hcon := hconB
              refine' cut_in ?kk ?ff
              case ff =>
                intro key
                go_region_with (first
                  | (go_at_call 124; (with_reducible refine hA10.cRdr hres32.out hne hcon ?_ ?_); exact fun _ _ h => ⟨rfl, h⟩; intro k2 tx2 n2 a2 kids2 j2 g2 m2 cp2 w11 hres11 hA11; replace hres11 := Lib.hid hres11; have hc11 := hA11.c5)
                  | (refine At.stepApp' (hA11.junk _) (by simp) (List.mem_cons_self ..) (heap_alloc_new _ _) (by rfl) (by rfl) (by rfl) (by rfl) ?_; intro g12 cap12 w12 hA12; have hc12 := hA12.c5))
                all_goals
                  have hA13 := hA12.set4 (.slice (some ⟨g12, 0, none⟩) (4) cap12)
                  generalize World.setCell w12 _ _ = w13 at hA13 ⊢
                  clear hA11 hA12 hc12 hc11
                  generalize Value.slice (some { block := w11.heap.size, off := 0 }) 1 1 = s22 at ⊢
                  clear w11 w12
                  revert hA13
                  revert hres11
                  revert w13
                  revert s22
                  revert g12
                  revert cap12
                  revert cp2 m2 g2 j2 kids2 a2 n2 tx2 k2
                  exact key.out
              case kk =>
                intro kb txb nb ab kidsb jb gb mb cpb capb g40 sb w40 hres40 hA40
                clear hA10 hc10 hcon hA32 hconB hres32
                have hA41 := hA40.weak (ts' := []) (fun _ h => (List.not_mem_nil h).elim)
                clear hA40
                go_wp2_with fail
                refine hA41.cNeed hres40.out (fun _ _ h => ⟨rfl, h⟩) ?_
                intro w20 hres20 hA20
                replace hres20 := Lib.hid hres20
                have hc20 := hA20.c5
                have hA21 := hA20.close.swap
                clear hA20 hA41
                have hsb := hA21.blk
                have hAz := hA21.setSyn (.int .i64 1) (.string ⟨List.toArray (txn)⟩) (.int .i64 n3) (.int .i64 p) (.slice (some ⟨g40, 0, none⟩) 4 capb)
                obtain ⟨⟨⟨s0, s1, s2, s3, s4⟩, _⟩, _, _⟩ := hAz.c5
                have hout := Lib.hid (hAz.out (k := 1) (tx := txn) (n := n3) (a := p) (List.mem_cons_self ..))
                clear hAz
                go_wp21
                exact bodyPost_ret (v := .agg #[.int .i64 1, .string ⟨List.toArray (txn)⟩, .int .i64 n3, .int .i64 p, .slice (some ⟨g40, 0, none⟩) 4 capb]) (by simp [results, Tryz.results68, go_sem, s0, s1, s2, s3, s4]) rfl (hres20.out ▸ hout.out)
  intro hb w4 hA4
  replace hres := Lib.hid (hres.out.trans (if_neg (by rw [hb]; decide)))
  clear hb hA3 hpart
  go_wp2_with fail
  refine hA4.cIs [[97, 100, 118, 101, 114, 115, 97, 114, 121]] (by simp) rfl rfl (by simp) ?_ ?_
  rotate_left
  · intro hb w5 hA5
    have hres5 := Lib.hid (hres.out.trans (if_pos hb))
    clear hb hA4 hres
    go_wp2_with fail
    refine hA5.cNext ?_
    intro w6 hA6
    clear hA5
    go_wp2_with fail
    refine hA6.cRdr hres5.out hne (fun _ => pname_any pb tb c _ lv T _ hA6.ps) (fun _ _ h => ⟨rfl, h⟩) ?_
    intro kn txn nn an kidsn jn gn mn cpn w7 hres7 hA7
    replace hres7 := Lib.hid hres7
    clear hA6 hres5
    have hc7 := hA7.c5
    have hA8 := ((hA7.set0 (.int .i64 5)).set1 (.string ⟨txn.toArray⟩)).weak (ts' := []) (fun _ h => (List.not_mem_nil h).elim)
    clear hA7
    go_wp2_with fail
    clear hc7
    generalize World.setCell (World.setCell w7 _ _) _ _ = w8 at hA8 ⊢
    clear w7
    refine hA8.cNeed hres7.out (fun _ _ h => ⟨rfl, h⟩) ?_
    intro w9 hres9 hA9
    replace hres9 := Lib.hid hres9
    clear hA8 hres7
    go_wp2_with fail
    refine hA9.cRdr hres9.out hne (hsch.out _ _ hA9.ps) (fun _ _ h => ⟨rfl, h⟩) ?_
    intro kd tx n a kids j g m cp w10 hres10 hA10
    replace hres10 := Lib.hid hres10
    clear hA9 hres9
    have hA11 := hA10.open1 (k := kd) (tx := tx) (n := n) (a := a) (List.mem_cons_self ..)
    have hc11 := hA11.c5
    have hA12 := hA11.set4 (.slice (some ⟨w10.heap.size, 0, none⟩) 1 1)
    clear hA10 hA11
    go_wp2_with fail
    clear hc11
    generalize World.setCell (World.alloc w10 _) _ _ = w12 at hA12 ⊢
    generalize w10.heap.size = G at hA12 ⊢
    clear w10
    refine hA12.cNeed hres10.out (fun _ _ h => ⟨rfl, h⟩) ?_
    intro w20 hres20 hA20
    replace hres20 := Lib.hid hres20
    have hc20 := hA20.c5
    have hA21 := hA20.close.swap
    clear hA20 hA12
    have hsb := hA21.blk
    have hAz := hA21.setSyn (.int .i64 5) (.string ⟨List.toArray (txn)⟩) (.int .i64 0) (.int .i64 p) (.slice (some ⟨G, 0, none⟩) 1 1)
    obtain ⟨⟨⟨s0, s1, s2, s3, s4⟩, _⟩, _, _⟩ := hAz.c5
    have hout := Lib.hid (hAz.out (k := 5) (tx := txn) (n := 0) (a := p) (List.mem_cons_self ..))
    clear hAz
    go_wp21
    exact bodyPost_ret (v := .agg #[.int .i64 5, .string ⟨List.toArray (txn)⟩, .int .i64 0, .int .i64 p, .slice (some ⟨G, 0, none⟩) 1 1]) (by simp [results, Tryz.results68, go_sem, s0, s1, s2, s3, s4]) rfl (hres20.out ▸ hout.out)
  intro hb w5 hA5
  replace hres := Lib.hid (hres.out.trans (if_neg (by rw [hb]; decide)))
  clear hb hA4 hsch
  have hA4 := hA5
  clear hA5
  go_wp2_with fail
  refine hA4.cIs [[102, 111, 114, 109, 117, 108, 97]] (by simp) rfl rfl (by simp) ?_ ?_
  rotate_left
  · intro hb w5 hA5
    have hres5 := Lib.hid (hres.out.trans (if_pos hb))
    clear hb hA4 hres
    go_wp2_with fail
    refine hA5.cNext ?_
    intro w6 hA6
    clear hA5
    go_wp2_with fail
    refine hA6.cRdr hres5.out hne (fun _ => pname_any pb tb c _ lv T _ hA6.ps) (fun _ _ h => ⟨rfl, h⟩) ?_
    intro kn txn nn an kidsn jn gn mn cpn w7 hres7 hA7
    replace hres7 := Lib.hid hres7
    clear hA6 hres5
    have hc7 := hA7.c5
    have hA8 := ((hA7.set0 (.int .i64 6)).set1 (.string ⟨txn.toArray⟩)).weak (ts' := []) (fun _ h => (List.not_mem_nil h).elim)
    clear hA7
    go_wp2_with fail
    clear hc7
    generalize World.setCell (World.setCell w7 _ _) _ _ = w8 at hA8 ⊢
    clear w7
    refine hA8.cNeed hres7.out (fun _ _ h => ⟨rfl, h⟩) ?_
    intro w9 hres9 hA9
    replace hres9 := Lib.hid hres9
    clear hA8 hres7
    go_wp2_with fail
    refine hA9.cRdr hres9.out hne (hfor.out _ _ hA9.ps) (fun _ _ h => ⟨rfl, h⟩) ?_
    intro kd tx n a kids j g m cp w10 hres10 hA10
    replace hres10 := Lib.hid hres10
    clear hA9 hres9
    have hA11 := hA10.open1 (k := kd) (tx := tx) (n := n) (a := a) (List.mem_cons_self ..)
    have hc11 := hA11.c5
    have hA12 := hA11.set4 (.slice (some ⟨w10.heap.size, 0, none⟩) 1 1)
    clear hA10 hA11
    go_wp2_with fail
    clear hc11
    generalize World.setCell (World.alloc w10 _) _ _ = w12 at hA12 ⊢
    generalize w10.heap.size = G at hA12 ⊢
    clear w10
    refine hA12.cNeed hres10.out (fun _ _ h => ⟨rfl, h⟩) ?_
    intro w20 hres20 hA20
    replace hres20 := Lib.hid hres20
    have hc20 := hA20.c5
    have hA21 := hA20.close.swap
    clear hA20 hA12
    have hsb := hA21.blk
    have hAz := hA21.setSyn (.int .i64 6) (.string ⟨List.toArray (txn)⟩) (.int .i64 0) (.int .i64 p) (.slice (some ⟨G, 0, none⟩) 1 1)
    obtain ⟨⟨⟨s0, s1, s2, s3, s4⟩, _⟩, _, _⟩ := hAz.c5
    have hout := Lib.hid (hAz.out (k := 6) (tx := txn) (n := 0) (a := p) (List.mem_cons_self ..))
    clear hAz
    go_wp21
    exact bodyPost_ret (v := .agg #[.int .i64 6, .string ⟨List.toArray (txn)⟩, .int .i64 0, .int .i64 p, .slice (some ⟨G, 0, none⟩) 1 1]) (by simp [results, Tryz.results68, go_sem, s0, s1, s2, s3, s4]) rfl (hres20.out ▸ hout.out)
  intro hb w5 hA5
  replace hres := Lib.hid (hres.out.trans (if_neg (by rw [hb]; decide)))
  clear hb hA4 hfor
  have hA4 := hA5
  clear hA5
  go_wp2_with fail
  refine hA4.cIs [[112, 114, 111, 98, 108, 101, 109]] (by simp) rfl rfl (by simp) ?_ ?_
  rotate_left
  · skip
    intro hb w5 hA5
    have hres5 := Lib.hid (hres.out.trans (if_pos hb))
    clear hb hA4 hres
    go_wp2_with fail
    refine hA5.cNext ?_
    intro w6 hA6
    clear hA5
    go_wp2_with fail
    refine hA6.cRdr hres5.out hne (fun _ => pname_any pb tb c _ lv T _ hA6.ps) (fun _ _ h => ⟨rfl, h⟩) ?_
    intro kn txn nn an kidsn jn gn mn cpn w7 hres7 hA7
    replace hres7 := Lib.hid hres7
    clear hA6 hres5
    have hc7 := hA7.c5
    have hA8 := ((hA7.set0 (.int .i64 7)).set1 (.string ⟨txn.toArray⟩)).weak (ts' := []) (fun _ h => (List.not_mem_nil h).elim)
    clear hA7
    go_wp2_with fail
    clear hc7
    generalize World.setCell (World.setCell w7 _ _) _ _ = w8 at hA8 ⊢
    clear w7
    refine hA8.cNeed hres7.out (fun _ _ h => ⟨rfl, h⟩) ?_
    intro w9 hres9 hA9
    replace hres9 := Lib.hid hres9
    clear hA8 hres7
    go_wp2_with fail
    refine hA9.cRdr hres9.out hne (fun _ => pname_any pb tb c _ lv T _ hA9.ps) (fun _ _ h => ⟨rfl, h⟩) ?_
    intro kd tx n a kids j g m cp w10 hres10 hA10
    replace hres10 := Lib.hid hres10
    clear hA9 hres9
    have hA11 := hA10.open1 (k := kd) (tx := tx) (n := n) (a := a) (List.mem_cons_self ..)
    have hc11 := hA11.c5
    have hA12 := (hA11.set4 (.slice (some ⟨w10.heap.size, 0, none⟩) 1 1)).weak (ts' := []) (fun _ h => (List.not_mem_nil h).elim)
    clear hA10 hA11
    go_wp2_with fail
    clear hc11
    generalize World.setCell (World.alloc w10 _) _ _ = w12 at hA12 ⊢
    generalize w10.heap.size = G at hA12 ⊢
    clear w10
    refine hA12.cNeed hres10.out (fun _ _ h => ⟨rfl, h⟩) ?_
    intro w14 hres14 hA14
    replace hres14 := Lib.hid hres14
    clear hA12 hres10
    go_wp2_with fail
    have hcon1 := fun (_ : name reservedB T (nx T j) ≠ .none) => pname_any pb tb c (nx T j) lv T _ hA14.drew.ps
    have hA10 : At _ _ _ _ _ _ _ _ _ (_, Value.slice (some ⟨G, 0, none⟩) 1 1) _ _ := hA14.drew
    generalize hvr : Value.slice (some ⟨G, 0, none⟩) 1 1 = vrow at hA10
    clear hvr
    have hc10 := hA10.c5
    have hcon := hcon1
    refine' cut_in ?kk ?ff
    case ff =>
      intro key
      go_region_with (first
        | (go_at_call 123; (with_reducible refine hA10.cRdr hres14.out hne hcon ?_ ?_); exact fun _ _ h => ⟨rfl, h⟩; intro k2 tx2 n2 a2 kids2 j2 g2 m2 cp2 w11 hres11 hA11; replace hres11 := Lib.hid hres11; have hc11 := hA11.c5)
        | (refine At.stepApp' (hA11.junk _) (by simp) (List.mem_cons_self ..) (heap_alloc_new _ _) (by rfl) (by rfl) (by rfl) (by rfl) ?_; intro g12 cap12 w12 hA12; have hc12 := hA12.c5))
      all_goals
        have hA13 := hA12.set4 (.slice (some ⟨g12, 0, none⟩) (2) cap12)
        generalize World.setCell w12 _ _ = w13 at hA13 ⊢
        clear hA11 hA12 hc12 hc11
        generalize Value.slice (some { block := w11.heap.size, off := 0 }) 1 1 = s22 at ⊢
        clear w11 w12
        revert hA13
        revert hres11
        revert w13
        revert s22
        revert g12
        revert cap12
        revert cp2 m2 g2 j2 kids2 a2 n2 tx2 k2
        exact key.out
    case kk =>
      intro k2 tx2 n2 a2 kids2 j2 g2 m2 cp2 cap12 g12 s22 w13 hres11 hA13
      clear hA10 hc10 hcon hA14 hcon1 hres14
      have hA15 := hA13.weak (ts' := []) (fun _ h => (List.not_mem_nil h).elim)
      clear hA13
      go_wp2_with fail
      refine hA15.cNeed hres11.out (fun _ _ h => ⟨rfl, h⟩) ?_
      intro w16 hres16 hA16
      replace hres16 := Lib.hid hres16
      clear hA15 hres11
      go_wp2_with fail
      refine hA16.cRdr hres16.out hne (fun _ => pnumber_any pb tb c _ lv T _ hA16.ps) (fun _ _ h => ⟨rfl, h⟩) ?_
      intro k3 tx3 n3 a3 kids3 j3 g3 m3 cp3 w17 hres17 hA17
      replace hres17 := Lib.hid hres17
      clear hA16 hres16
      have hc17 := hA17.c5
      have hA18 := hA17.set2 (.int .i64 n3)
      clear hA17
      go_wp2_with fail
      clear hc17
      generalize World.setCell w17 _ _ = w18 at hA18 ⊢
      clear w17
      refine hA18.cNeed hres17.out (fun _ _ h => ⟨rfl, h⟩) ?_
      intro w20 hres20 hA20
      replace hres20 := Lib.hid hres20
      have hc20 := hA20.c5
      have hA21 := hA20.close.swap
      clear hA20 hA18
      have hsb := hA21.blk
      have hAz := hA21.setSyn (.int .i64 7) (.string ⟨List.toArray (txn)⟩) (.int .i64 n3) (.int .i64 p) (.slice (some ⟨g12, 0, none⟩) 2 cap12)
      obtain ⟨⟨⟨s0, s1, s2, s3, s4⟩, _⟩, _, _⟩ := hAz.c5
      have hout := Lib.hid (hAz.out (k := 7) (tx := txn) (n := n3) (a := p) (List.mem_cons_self ..))
      clear hAz
      go_wp21
      exact bodyPost_ret (v := .agg #[.int .i64 7, .string ⟨List.toArray (txn)⟩, .int .i64 n3, .int .i64 p, .slice (some ⟨g12, 0, none⟩) 2 cap12]) (by simp [results, Tryz.results68, go_sem, s0, s1, s2, s3, s4]) rfl (hres20.out ▸ hout.out)
  intro hb w5 hA5
  replace hres := Lib.hid (hres.out.trans (if_neg (by rw [hb]; decide)))
  clear hA4
  go_wp2_with fail
  refine hA5.cFail 4 ?_
  intro w6 ho
  exact ⟨rfl, hA5.err ho hres.out⟩
end Go.Proofs.YtplbfmcgddnkeaaGreatDoor
end
