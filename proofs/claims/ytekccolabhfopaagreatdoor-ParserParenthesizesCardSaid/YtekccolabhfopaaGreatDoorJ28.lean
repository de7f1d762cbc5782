/- Joined: RpO. -/
import Derived.Test.YtekccolabhfopaaGreatDoorJ27
set_option linter.unusedVariables false
set_option linter.unusedSimpArgs false
section
/- Walks: part, declaration of the reference's parser. -/
set_option maxHeartbeats 8000000
set_option maxRecDepth 100000
namespace Go.Proofs.YtekccolabhfopaaGreatDoor
open Go.RowKit
attribute [local go_sem ↓] Go.wp_at_zero Go.wp_at_succ
attribute [local go_sem ↓] app_open
theorem AtR.rot3 {pb tb c : Nat} {T : List Tok} {w0 W : World} {L : List Loc} {ts : List (List Syn × Value)} {rs : List Syn × Value} {s : St} {x y z : Loc} (h : AtR pb tb c T w0 (x :: y :: z :: L) ts rs s W) : AtR pb tb c T w0 (z :: x :: y :: L) ts rs s W :=
  h.perm (List.perm_middle (a := z) (l₁ := [x, y]) (l₂ := L))
theorem mOpt_pos {f : Nat} {T : List Tok} {k : Int} {w : List UInt8} {xs : List Syn} {s : St} (h : isW T [w] s.i = true) : mOpt reservedB T f k w xs s = (mPart reservedB T f k w s).bind fun p => some (xs ++ [p.1], p.2) := if_pos h
theorem mOpt_neg {f : Nat} {T : List Tok} {k : Int} {w : List UInt8} {xs : List Syn} {s : St} (h : isW T [w] s.i = false) : mOpt reservedB T f k w xs s = some (xs, s) := if_neg (by rw [h]; decide)
theorem rpart_any (pb tb c f : Nat) (T : List Tok) (k : Int) (x : List UInt8) (s : St) (w : World) (o : Syn × St) (h : PR pb tb c T s w) (hlv : Lv s)
    (hcond : RdM pb tb c T 47 #[.pointer (some ⟨pb, 0, none⟩)] (mrd reservedB T f .cond))
    (hres : mPart reservedB T f k x s = some o) : Calls Tryz.prog 100 #[.pointer (some ⟨pb, 0, none⟩), .int .i64 k, .string ⟨x.toArray⟩] w (ROut pb tb c T w o.1 o.2) := by
  have hA := (AtR.begin h).alloc z5 26
  unfold mPart at hres
  replace hres := Lib.hid hres
  replace hcond := Lib.hid hcond
  clear h
  go_enter Tryz.func100, Tryz.ntmps100
  go_wp2_with fail
  generalize w.heap.size = B at hA ⊢
  refine hA.cTok ?_
  clear hA
  intro W hA
  go_wp2_with fail
  refine hA.cNeed x ?_
  clear hA
  intro W hA
  go_wp2_with fail
  refine hA.cRd hlv.need hres.out hcond.out ?_
  clear hA
  intro kd1 tx1 n1 a1 kids1 s1 g1 m1 cp1 W hres1 hlv1 hLv1 hA
  have hres3 := Lib.hid (Option.some.inj hres1)
  replace hA := hA.slice1 (k := kd1) (tx := tx1) (n := n1) (a := a1) mem0
  have hsb := hA.blk
  have hR := hA.one (x := (B, z5, 26)) mem0
  have hsb := hR.blk
  have hZ := hR.setSyn (.int .i64 k) (.string ⟨List.toArray ([])⟩) (.int .i64 0) (.int .i64 (tk T s.i).pos) (.slice (some ⟨W.heap.size, 0, none⟩) 1 1)
  obtain ⟨⟨⟨q0, q1, q2, q3, q4⟩, _⟩, _, _⟩ := hZ.c5
  have hout := Lib.hid (hZ.out (k := k) (tx := []) (n := 0) (a := (tk T s.i).pos) mem0)
  clear hR hZ hA
  go_wp21
  exact bodyPost_ret (v := .agg #[.int .i64 k, .string ⟨List.toArray ([])⟩, .int .i64 0, .int .i64 (tk T s.i).pos, .slice (some ⟨W.heap.size, 0, none⟩) 1 1]) (by simp [results, Tryz.results100, go_sem, q0, q1, q2, q3, q4]) rfl (hres3.out ▸ hout.out)
theorem rdecl_any (pb tb c f : Nat) (T : List Tok) (s : St) (w : World) (o : Syn × St) (h : PR pb tb c T s w) (hlv : Lv s)
    (hcond : RdM pb tb c T 47 #[.pointer (some ⟨pb, 0, none⟩)] (mrd reservedB T f .cond))
    (hsch : RdM pb tb c T 48 #[.pointer (some ⟨pb, 0, none⟩)] (mrd reservedB T f .scheme))
    (hfor : RdM pb tb c T 49 #[.pointer (some ⟨pb, 0, none⟩)] (mrd reservedB T f .formula))
    (hres : mDecl reservedB T f s = some o) : Calls Tryz.prog 77 #[.pointer (some ⟨pb, 0, none⟩)] w (ROut pb tb c T w o.1 o.2) := by
  have hA := (AtR.begin h).alloc z5 26
  unfold mDecl at hres
  dsimp only at hres
  have hpart := Lib.hid (fun k x s w o h hlv => rpart_any pb tb c f T k x s w o h hlv hcond)
  replace hres := Lib.hid hres
  replace hsch := Lib.hid hsch
  replace hfor := Lib.hid hfor
  clear h hcond
  go_enter Tryz.func77, Tryz.ntmps77
  go_wp2_with fail
  generalize w.heap.size = B at hA ⊢
  refine hA.cTok ?_
  clear hA
  try clear d0 d1 d2 d3 d4 f0
  intro W hA
  go_upto_region 2 with (fail)
  replace hA := hA.alloc [.int .i64 (tk T s.i).kind, .string ⟨(tk T s.i).text.toArray⟩, .int .i64 (tk T s.i).pos] 38
  generalize W.heap.size = M at hA ⊢
  generalize World.alloc W _ = W at hA ⊢
  obtain ⟨⟨y0, y1, y2⟩, _⟩ := own3 (hA.loc _ mem0)
  go_upto_region 4 with (fail)
  replace hA := hA.leaf.alloc [.int .i64 0, .string ⟨#[]⟩, .int .i64 0, .int .i64 (tk T s.i).pos, .slice none 0 0] 26
  generalize W.heap.size = N at hA ⊢
  generalize World.alloc W _ = W at hA ⊢
  clear y0 y1 y2
  go_wp2_with fail
  refine hA.cIs [116, 97, 115, 107] ?_ ?_
  rotate_left
  · clear hA
    intro hi W hA
    replace hres := Lib.hid (by have h' := hres.out; rw [if_pos hi] at h'; exact h')
    go_wp2_with fail
    refine hA.cTake ?_
    clear hA
    intro W hA
    go_wp2_with fail
    refine hA.cName ?_
    clear hA
    intro g1 m1 cp1 W hA
    obtain ⟨⟨x0, x1, x2, x3, x4⟩, x5⟩ := own5 (hA.loc _ mem0)
    have x6 := hA.lt mem0
    go_upto_region 7 with (fail)
    replace hA := (hA.set0 (.int .i64 1)).set1 (.string ⟨(tk T (mTake T s).i).text.toArray⟩)
    clear x0 x1 x2 x3 x4 x5 x6
    generalize World.setCell (World.setCell W _ _) _ _ = W at hA ⊢
    have hLa : Lv (mName reservedB T (mTake T s)).2 := hlv.take.name
    have hnm : (mName reservedB T (mTake T s)).1.text = (tk T (mTake T s).i).text := rfl
    rw [hnm] at hres
    generalize (mName reservedB T (mTake T s)).2 = s1 at hA hres hLa
    generalize (tk T (mTake T s).i).text = nm at hA hres ⊢
    clear hnm
    go_wp2_with fail
    refine hA.cNeed [105, 110, 112, 117, 116, 115] ?_
    clear hA
    intro W hA
    go_wp2_with fail
    refine hA.cNumber ?_
    clear hA
    intro g4 m4 cp4 W hA
    obtain ⟨⟨x0, x1, x2, x3, x4⟩, x5⟩ := own5 (hA.loc _ mem0)
    have x6 := hA.lt mem0
    go_upto_region 9 with (fail)
    replace hA := hA.set2 (.int .i64 (mVal (tk T (mNeed T [105, 110, 112, 117, 116, 115] s1).i).text))
    clear x0 x1 x2 x3 x4 x5 x6
    generalize World.setCell W _ _ = W at hA ⊢
    have hLb : Lv (mNumber T (mNeed T [105, 110, 112, 117, 116, 115] s1)).2 := hLa.need.number
    have hnm : (mNumber T (mNeed T [105, 110, 112, 117, 116, 115] s1)).1.num = mVal (tk T (mNeed T [105, 110, 112, 117, 116, 115] s1).i).text := rfl
    rw [hnm] at hres
    generalize (mNumber T (mNeed T [105, 110, 112, 117, 116, 115] s1)).2 = s2 at hA hres hLb
    generalize mVal (tk T (mNeed T [105, 110, 112, 117, 116, 115] s1).i).text = an at hA hres ⊢
    clear hnm hLa
    go_wp2_with fail
    refine hA.cNeed [111, 117, 116, 112, 117, 116, 115] ?_
    clear hA
    intro W hA
    go_wp2_with fail
    refine hA.cNumber ?_
    clear hA
    intro g5 m5 cp5 W hA
    have hLc : Lv (mNumber T (mNeed T [111, 117, 116, 112, 117, 116, 115] s2)).2 := hLb.need.number
    have hnm : (mNumber T (mNeed T [111, 117, 116, 112, 117, 116, 115] s2)).1 = .mk 9 [] (mVal (tk T (mNeed T [111, 117, 116, 112, 117, 116, 115] s2).i).text) (tk T (mNeed T [111, 117, 116, 112, 117, 116, 115] s2).i).pos [] := rfl
    rw [hnm] at hres
    generalize (mNumber T (mNeed T [111, 117, 116, 112, 117, 116, 115] s2)).2 = s3 at hA hres hLc
    generalize mVal (tk T (mNeed T [111, 117, 116, 112, 117, 116, 115] s2).i).text = bn at hA hres ⊢
    generalize (tk T (mNeed T [111, 117, 116, 112, 117, 116, 115] s2).i).pos = bp at hA hres ⊢
    clear hnm hLb
    obtain ⟨⟨x0, x1, x2, x3, x4⟩, x5⟩ := own5 (hA.loc _ mem0)
    have x6 := hA.lt mem0
    go_upto_region 11 with (fail)
    clear x0 x1 x2 x3 x4 x5 x6
    replace hA := ((hA.set4 (.slice (some ⟨W.heap.size, 0, none⟩) 1 1)).open1 (k := 9) (tx := []) (n := bn) (a := bp) mem0).weak (ts' := []) (fun _ h => (List.not_mem_nil h).elim)
    simp only [setCell_size] at hA
    generalize World.alloc (World.setCell W _ _) _ = W' at hA ⊢
    generalize W.heap.size = Z at hA ⊢
    clear W
    rename_i W
    go_wp2_with fail
    refine hA.cIs [119, 104, 101, 114, 101] ?_ ?_
    · clear hA
      intro hw W hA
      replace hres := Lib.hid (by have h' := hres.out; rw [mOpt_neg hw] at h'; simp only [Option.bind_some, Option.bind_assoc] at h'; exact h')
      go_upto_region 13 with (fail)
      replace hA : AtR pb tb c T w _ _ (_, Value.slice (some ⟨Z, 0, none⟩) 1 1) _ _ := hA
      generalize hvr : Value.slice (some ⟨Z, 0, none⟩) 1 1 = vrow at hA
      clear hvr
      have hA10 := hA.drew
      have hc10 := hA10.c5
      refine' cut_in ?kka ?ffa
      case ffa =>
        intro key
        go_region_with (first
          | (go_at_call 100; refine hA10.cRd1 (hLc) hres.out (part_tame f 3 [97, 108, 108, 111, 119]) (fun o ho => hpart.out 3 [97, 108, 108, 111, 119] _ _ o hA10.ps (hLc) ho) ?_; intro k2 tx2 n2 a2 kids2 s2 g2 m2 cp2 w11 hres11 hlv11 hLv11 hA11; have hc11 := hA11.c5)
          | (refine AtR.stepApp' (hA11.junk _) (by simp) (List.mem_cons_self ..) (heap_alloc_new _ _) (by rfl) (by rfl) (by rfl) (by rfl) ?_; intro g12 cap12 w12 hA12; have hc12 := hA12.c5))
        all_goals
          have hA13 := hA12.set4 (.slice (some ⟨g12, 0, none⟩) (2) cap12)
          generalize World.setCell w12 _ _ = w13 at hA13 ⊢
          clear hA11 hA12 hc12 hc11
          generalize Value.slice (some { block := w11.heap.size, off := 0 }) 1 1 = s22 at ⊢
          clear w11 w12 hlv11
          revert hA13
          revert hres11 hLv11
          revert w13
          revert s22
          revert g12
          revert cap12
          revert cp2 m2 g2 s2 kids2 a2 n2 tx2 k2
          exact key.out
      clear hres
      intro ka txa na aa kidsa sa g2 m2 cp2 capa ga s22 W hres hLva hA
      replace hres := Lib.hid hres
      clear hA10 hc10
      go_wp2_with fail
      refine hA.cIs [99, 97, 108, 109] ?_ ?_
      · clear hA
        intro hc W hA
        have hres3 := hres.out
        rw [mOpt_neg hc] at hres3
        simp only [Option.bind_some, Option.bind_assoc] at hres3
        replace hres3 := Lib.hid (Option.some.inj hres3)
        replace hA := hA.close
        go_wp2_with fail
        refine hA.cNeed [59] ?_
        clear hA
        intro W hA
        go_upto_region 37 with (fail)
        obtain ⟨⟨z0, z1, z2, z3, z4⟩, _⟩ := own5 (hA.loc _ mem0)
        have hR := hA.one (x := (B, z5, 26)) mem2
        have hsb := hR.blk
        have hZ := hR.setSyn (.int .i64 1) (.string ⟨List.toArray (nm)⟩) (.int .i64 an) (.int .i64 (tk T s.i).pos) (.slice (some ⟨ga, 0, none⟩) 2 capa)
        obtain ⟨⟨⟨q0, q1, q2, q3, q4⟩, _⟩, _, _⟩ := hZ.c5
        have hout := Lib.hid (hZ.out (k := 1) (tx := nm) (n := an) (a := (tk T s.i).pos) mem0)
        clear hR hZ hA
        go_wp21
        exact bodyPost_ret (v := .agg #[.int .i64 1, .string ⟨List.toArray (nm)⟩, .int .i64 an, .int .i64 (tk T s.i).pos, .slice (some ⟨ga, 0, none⟩) 2 capa]) (by simp [results, Tryz.results77, go_sem, q0, q1, q2, q3, q4]) rfl (hres3.out ▸ hout.out)
      · clear hA
        intro hc W hA
        replace hres := Lib.hid (by have h' := hres.out; rw [mOpt_pos hc] at h'; simp only [Option.bind_some, Option.bind_assoc] at h'; exact h')
        go_upto_region 15 with (fail)
        replace hA : AtR pb tb c T w _ _ (_, Value.slice (some ⟨ga, 0, none⟩) 2 capa) _ _ := hA
        generalize hvr : Value.slice (some ⟨ga, 0, none⟩) 2 capa = vrow at hA
        clear hvr
        have hA10 := hA.drew
        have hc10 := hA10.c5
        refine' cut_in ?kkb ?ffb
        case ffb =>
          intro key
          go_region_with (first
            | (go_at_call 100; refine hA10.cRd1 (hLva) hres.out (part_tame f 4 [99, 97, 108, 109]) (fun o ho => hpart.out 4 [99, 97, 108, 109] _ _ o hA10.ps (hLva) ho) ?_; intro k2 tx2 n2 a2 kids2 s2 g2 m2 cp2 w11 hres11 hlv11 hLv11 hA11; have hc11 := hA11.c5)
            | (refine AtR.stepApp' (hA11.junk _) (by simp) (List.mem_cons_self ..) (heap_alloc_new _ _) (by rfl) (by rfl) (by rfl) (by rfl) ?_; intro g12 cap12 w12 hA12; have hc12 := hA12.c5))
          all_goals
            have hA13 := hA12.set4 (.slice (some ⟨g12, 0, none⟩) (3) cap12)
            generalize World.setCell w12 _ _ = w13 at hA13 ⊢
            clear hA11 hA12 hc12 hc11
            generalize Value.slice (some { block := w11.heap.size, off := 0 }) 1 1 = s22 at ⊢
            clear w11 w12 hlv11
            revert hA13
            revert hres11 hLv11
            revert w13
            revert s22
            revert g12
            revert cap12
            revert cp2 m2 g2 s2 kids2 a2 n2 tx2 k2
            exact key.out
        clear hres
        intro kb txb nb ab kidsb sb g2 m2 cp2 capb gb s22 W hres hLvb hA
        replace hres := Lib.hid hres
        clear hA10 hc10
        have hres3 := Lib.hid (Option.some.inj hres.out)
        replace hA := hA.close
        go_wp2_with fail
        refine hA.cNeed [59] ?_
        clear hA
        intro W hA
        go_upto_region 37 with (fail)
        obtain ⟨⟨z0, z1, z2, z3, z4⟩, _⟩ := own5 (hA.loc _ mem0)
        have hR := hA.one (x := (B, z5, 26)) mem2
        have hsb := hR.blk
        have hZ := hR.setSyn (.int .i64 1) (.string ⟨List.toArray (nm)⟩) (.int .i64 an) (.int .i64 (tk T s.i).pos) (.slice (some ⟨gb, 0, none⟩) 3 capb)
        obtain ⟨⟨⟨q0, q1, q2, q3, q4⟩, _⟩, _, _⟩ := hZ.c5
        have hout := Lib.hid (hZ.out (k := 1) (tx := nm) (n := an) (a := (tk T s.i).pos) mem0)
        clear hR hZ hA
        go_wp21
        exact bodyPost_ret (v := .agg #[.int .i64 1, .string ⟨List.toArray (nm)⟩, .int .i64 an, .int .i64 (tk T s.i).pos, .slice (some ⟨gb, 0, none⟩) 3 capb]) (by simp [results, Tryz.results77, go_sem, q0, q1, q2, q3, q4]) rfl (hres3.out ▸ hout.out)
    · clear hA
      intro hw W hA
      replace hres := Lib.hid (by have h' := hres.out; rw [mOpt_pos hw] at h'; simp only [Option.bind_some, Option.bind_assoc] at h'; exact h')
      go_upto_region 12 with (fail)
      replace hA : AtR pb tb c T w _ _ (_, Value.slice (some ⟨Z, 0, none⟩) 1 1) _ _ := hA
      generalize hvr : Value.slice (some ⟨Z, 0, none⟩) 1 1 = vrow at hA
      clear hvr
      have hA10 := hA.drew
      have hc10 := hA10.c5
      refine' cut_in ?kkc ?ffc
      case ffc =>
        intro key
        go_region_with (first
          | (go_at_call 100; refine hA10.cRd1 (hLc) hres.out (part_tame f 2 [119, 104, 101, 114, 101]) (fun o ho => hpart.out 2 [119, 104, 101, 114, 101] _ _ o hA10.ps (hLc) ho) ?_; intro k2 tx2 n2 a2 kids2 s2 g2 m2 cp2 w11 hres11 hlv11 hLv11 hA11; have hc11 := hA11.c5)
          | (refine AtR.stepApp' (hA11.junk _) (by simp) (List.mem_cons_self ..) (heap_alloc_new _ _) (by rfl) (by rfl) (by rfl) (by rfl) ?_; intro g12 cap12 w12 hA12; have hc12 := hA12.c5))
        all_goals
          have hA13 := hA12.set4 (.slice (some ⟨g12, 0, none⟩) (2) cap12)
          generalize World.setCell w12 _ _ = w13 at hA13 ⊢
          clear hA11 hA12 hc12 hc11
          generalize Value.slice (some { block := w11.heap.size, off := 0 }) 1 1 = s22 at ⊢
          clear w11 w12 hlv11
          revert hA13
          revert hres11 hLv11
          revert w13
          revert s22
          revert g12
          revert cap12
          revert cp2 m2 g2 s2 kids2 a2 n2 tx2 k2
          exact key.out
      clear hres
      intro kc txc nc ac kidsc sc g2 m2 cp2 capc gc s22 W hres hLvc hA
      replace hres := Lib.hid hres
      clear hA10 hc10
      go_upto_region 13 with (fail)
      replace hA : AtR pb tb c T w _ _ (_, Value.slice (some ⟨gc, 0, none⟩) 2 capc) _ _ := hA
      generalize hvr : Value.slice (some ⟨gc, 0, none⟩) 2 capc = vrow at hA
      clear hvr
      have hA10 := hA.drew
      have hc10 := hA10.c5
      refine' cut_in ?kkd ?ffd
      case ffd =>
        intro key
        go_region_with (first
          | (go_at_call 100; refine hA10.cRd1 (hLvc) hres.out (part_tame f 3 [97, 108, 108, 111, 119]) (fun o ho => hpart.out 3 [97, 108, 108, 111, 119] _ _ o hA10.ps (hLvc) ho) ?_; intro k2 tx2 n2 a2 kids2 s2 g2 m2 cp2 w11 hres11 hlv11 hLv11 hA11; have hc11 := hA11.c5)
          | (refine AtR.stepApp' (hA11.junk _) (by simp) (List.mem_cons_self ..) (heap_alloc_new _ _) (by rfl) (by rfl) (by rfl) (by rfl) ?_; intro g12 cap12 w12 hA12; have hc12 := hA12.c5))
        all_goals
          have hA13 := hA12.set4 (.slice (some ⟨g12, 0, none⟩) (3) cap12)
          generalize World.setCell w12 _ _ = w13 at hA13 ⊢
          clear hA11 hA12 hc12 hc11
          generalize Value.slice (some { block := w11.heap.size, off := 0 }) 1 1 = s22 at ⊢
          clear w11 w12 hlv11
          revert hA13
          revert hres11 hLv11
          revert w13
          revert s22
          revert g12
          revert cap12
          revert cp2 m2 g2 s2 kids2 a2 n2 tx2 k2
          exact key.out
      clear hres
      intro kd txd nd ad kidsd sd g2 m2 cp2 capd gd s22 W hres hLvd hA
      replace hres := Lib.hid hres
      clear hA10 hc10
      go_wp2_with fail
      refine hA.cIs [99, 97, 108, 109] ?_ ?_
      · clear hA
        intro hc W hA
        have hres3 := hres.out
        rw [mOpt_neg hc] at hres3
        simp only [Option.bind_some, Option.bind_assoc] at hres3
        replace hres3 := Lib.hid (Option.some.inj hres3)
        replace hA := hA.close
        go_wp2_with fail
        refine hA.cNeed [59] ?_
        clear hA
        intro W hA
        go_upto_region 37 with (fail)
        obtain ⟨⟨z0, z1, z2, z3, z4⟩, _⟩ := own5 (hA.loc _ mem0)
        have hR := hA.one (x := (B, z5, 26)) mem2
        have hsb := hR.blk
        have hZ := hR.setSyn (.int .i64 1) (.string ⟨List.toArray (nm)⟩) (.int .i64 an) (.int .i64 (tk T s.i).pos) (.slice (some ⟨gd, 0, none⟩) 3 capd)
        obtain ⟨⟨⟨q0, q1, q2, q3, q4⟩, _⟩, _, _⟩ := hZ.c5
        have hout := Lib.hid (hZ.out (k := 1) (tx := nm) (n := an) (a := (tk T s.i).pos) mem0)
        clear hR hZ hA
        go_wp21
        exact bodyPost_ret (v := .agg #[.int .i64 1, .string ⟨List.toArray (nm)⟩, .int .i64 an, .int .i64 (tk T s.i).pos, .slice (some ⟨gd, 0, none⟩) 3 capd]) (by simp [results, Tryz.results77, go_sem, q0, q1, q2, q3, q4]) rfl (hres3.out ▸ hout.out)
      · clear hA
        intro hc W hA
        replace hres := Lib.hid (by have h' := hres.out; rw [mOpt_pos hc] at h'; simp only [Option.bind_some, Option.bind_assoc] at h'; exact h')
        go_upto_region 15 with (fail)
        replace hA : AtR pb tb c T w _ _ (_, Value.slice (some ⟨gd, 0, none⟩) 3 capd) _ _ := hA
        generalize hvr : Value.slice (some ⟨gd, 0, none⟩) 3 capd = vrow at hA
        clear hvr
        have hA10 := hA.drew
        have hc10 := hA10.c5
        refine' cut_in ?kke ?ffe
        case ffe =>
          intro key
          go_region_with (first
            | (go_at_call 100; refine hA10.cRd1 (hLvd) hres.out (part_tame f 4 [99, 97, 108, 109]) (fun o ho => hpart.out 4 [99, 97, 108, 109] _ _ o hA10.ps (hLvd) ho) ?_; intro k2 tx2 n2 a2 kids2 s2 g2 m2 cp2 w11 hres11 hlv11 hLv11 hA11; have hc11 := hA11.c5)
            | (refine AtR.stepApp' (hA11.junk _) (by simp) (List.mem_cons_self ..) (heap_alloc_new _ _) (by rfl) (by rfl) (by rfl) (by rfl) ?_; intro g12 cap12 w12 hA12; have hc12 := hA12.c5))
          all_goals
            have hA13 := hA12.set4 (.slice (some ⟨g12, 0, none⟩) (4) cap12)
            generalize World.setCell w12 _ _ = w13 at hA13 ⊢
            clear hA11 hA12 hc12 hc11
            generalize Value.slice (some { block := w11.heap.size, off := 0 }) 1 1 = s22 at ⊢
            clear w11 w12 hlv11
            revert hA13
            revert hres11 hLv11
            revert w13
            revert s22
            revert g12
            revert cap12
            revert cp2 m2 g2 s2 kids2 a2 n2 tx2 k2
            exact key.out
        clear hres
        intro ke txe ne ae kidse se g2 m2 cp2 cape ge s22 W hres hLve hA
        replace hres := Lib.hid hres
        clear hA10 hc10
        have hres3 := Lib.hid (Option.some.inj hres.out)
        replace hA := hA.close
        go_wp2_with fail
        refine hA.cNeed [59] ?_
        clear hA
        intro W hA
        go_upto_region 37 with (fail)
        obtain ⟨⟨z0, z1, z2, z3, z4⟩, _⟩ := own5 (hA.loc _ mem0)
        have hR := hA.one (x := (B, z5, 26)) mem2
        have hsb := hR.blk
        have hZ := hR.setSyn (.int .i64 1) (.string ⟨List.toArray (nm)⟩) (.int .i64 an) (.int .i64 (tk T s.i).pos) (.slice (some ⟨ge, 0, none⟩) 4 cape)
        obtain ⟨⟨⟨q0, q1, q2, q3, q4⟩, _⟩, _, _⟩ := hZ.c5
        have hout := Lib.hid (hZ.out (k := 1) (tx := nm) (n := an) (a := (tk T s.i).pos) mem0)
        clear hR hZ hA
        go_wp21
        exact bodyPost_ret (v := .agg #[.int .i64 1, .string ⟨List.toArray (nm)⟩, .int .i64 an, .int .i64 (tk T s.i).pos, .slice (some ⟨ge, 0, none⟩) 4 cape]) (by simp [results, Tryz.results77, go_sem, q0, q1, q2, q3, q4]) rfl (hres3.out ▸ hout.out)
  clear hA
  intro hi W hA
  replace hres := Lib.hid (by have h' := hres.out; rw [if_neg (by rw [hi]; decide)] at h'; exact h')
  go_wp2_with fail
  refine hA.cIs [97, 100, 118, 101, 114, 115, 97, 114, 121] ?_ ?_
  rotate_left
  · clear hA
    intro hi W hA
    replace hres := Lib.hid (by have h' := hres.out; rw [if_pos hi] at h'; exact h')
    go_wp2_with fail
    refine hA.cTake ?_
    clear hA
    intro W hA
    go_wp2_with fail
    refine hA.cName ?_
    clear hA
    intro g1 m1 cp1 W hA
    obtain ⟨⟨x0, x1, x2, x3, x4⟩, x5⟩ := own5 (hA.loc _ mem0)
    have x6 := hA.lt mem0
    go_upto_region 19 with (fail)
    replace hA := (hA.set0 (.int .i64 5)).set1 (.string ⟨(tk T (mTake T s).i).text.toArray⟩)
    clear x0 x1 x2 x3 x4 x5 x6
    generalize World.setCell (World.setCell W _ _) _ _ = W at hA ⊢
    go_wp2_with fail
    refine hA.cNeed [61] ?_
    clear hA
    intro W hA
    replace hres := Lib.hid (by have h' := hres.out; rw [Option.bind_assoc] at h'; exact h')
    go_wp2_with fail
    refine hA.cRd (hlv.take.name.need) hres.out hsch.out ?_
    clear hA
    intro kd2 tx2 n2 a2 kids2 s2 g2 m2 cp2 W hres1 hlv2 hLv2 hA
    replace hres1 := Lib.hid hres1
    obtain ⟨⟨x0, x1, x2, x3, x4⟩, x5⟩ := own5 (hA.loc _ mem0)
    have x6 := hA.lt mem0
    go_upto_region 36 with (fail)
    clear x0 x1 x2 x3 x4 x5 x6
    replace hA := (hA.set4 (.slice (some ⟨W.heap.size, 0, none⟩) 1 1)).slice1 (k := kd2) (tx := tx2) (n := n2) (a := a2) mem0
    simp only [setCell_size] at hA
    generalize World.alloc (World.setCell W _ _) _ = W' at hA ⊢
    generalize W.heap.size = Z at hA ⊢
    clear W
    rename_i W
    have hres3 := Lib.hid (Option.some.inj hres1.out)
    go_wp2_with fail
    refine hA.cNeed [59] ?_
    clear hA
    intro W hA
    go_upto_region 37 with (fail)
    obtain ⟨⟨z0, z1, z2, z3, z4⟩, _⟩ := own5 (hA.loc _ mem0)
    have hR := hA.one (x := (B, z5, 26)) mem2
    have hsb := hR.blk
    have hZ := hR.setSyn (.int .i64 5) (.string ⟨List.toArray ((tk T (mTake T s).i).text)⟩) (.int .i64 0) (.int .i64 (tk T s.i).pos) (.slice (some ⟨Z, 0, none⟩) 1 1)
    obtain ⟨⟨⟨q0, q1, q2, q3, q4⟩, _⟩, _, _⟩ := hZ.c5
    have hout := Lib.hid (hZ.out (k := 5) (tx := (tk T (mTake T s).i).text) (n := 0) (a := (tk T s.i).pos) mem0)
    clear hR hZ hA
    go_wp21
    exact bodyPost_ret (v := .agg #[.int .i64 5, .string ⟨List.toArray ((tk T (mTake T s).i).text)⟩, .int .i64 0, .int .i64 (tk T s.i).pos, .slice (some ⟨Z, 0, none⟩) 1 1]) (by simp [results, Tryz.results77, go_sem, q0, q1, q2, q3, q4]) rfl (hres3.out ▸ hout.out)
  clear hA
  intro hi W hA
  replace hres := Lib.hid (by have h' := hres.out; rw [if_neg (by rw [hi]; decide)] at h'; exact h')
  go_wp2_with fail
  refine hA.cIs [102, 111, 114, 109, 117, 108, 97] ?_ ?_
  rotate_left
  · clear hA
    intro hi W hA
    replace hres := Lib.hid (by have h' := hres.out; rw [if_pos hi] at h'; exact h')
    go_wp2_with fail
    refine hA.cTake ?_
    clear hA
    intro W hA
    go_wp2_with fail
    refine hA.cName ?_
    clear hA
    intro g1 m1 cp1 W hA
    obtain ⟨⟨x0, x1, x2, x3, x4⟩, x5⟩ := own5 (hA.loc _ mem0)
    have x6 := hA.lt mem0
    go_upto_region 24 with (fail)
    replace hA := (hA.set0 (.int .i64 6)).set1 (.string ⟨(tk T (mTake T s).i).text.toArray⟩)
    clear x0 x1 x2 x3 x4 x5 x6
    generalize World.setCell (World.setCell W _ _) _ _ = W at hA ⊢
    go_wp2_with fail
    refine hA.cNeed [61] ?_
    clear hA
    intro W hA
    replace hres := Lib.hid (by have h' := hres.out; rw [Option.bind_assoc] at h'; exact h')
    go_wp2_with fail
    refine hA.cRd (hlv.take.name.need) hres.out hfor.out ?_
    clear hA
    intro kd2 tx2 n2 a2 kids2 s2 g2 m2 cp2 W hres1 hlv2 hLv2 hA
    replace hres1 := Lib.hid hres1
    obtain ⟨⟨x0, x1, x2, x3, x4⟩, x5⟩ := own5 (hA.loc _ mem0)
    have x6 := hA.lt mem0
    go_upto_region 36 with (fail)
    clear x0 x1 x2 x3 x4 x5 x6
    replace hA := (hA.set4 (.slice (some ⟨W.heap.size, 0, none⟩) 1 1)).slice1 (k := kd2) (tx := tx2) (n := n2) (a := a2) mem0
    simp only [setCell_size] at hA
    generalize World.alloc (World.setCell W _ _) _ = W' at hA ⊢
    generalize W.heap.size = Z at hA ⊢
    clear W
    rename_i W
    have hres3 := Lib.hid (Option.some.inj hres1.out)
    go_wp2_with fail
    refine hA.cNeed [59] ?_
    clear hA
    intro W hA
    go_upto_region 37 with (fail)
    obtain ⟨⟨z0, z1, z2, z3, z4⟩, _⟩ := own5 (hA.loc _ mem0)
    have hR := hA.one (x := (B, z5, 26)) mem2
    have hsb := hR.blk
    have hZ := hR.setSyn (.int .i64 6) (.string ⟨List.toArray ((tk T (mTake T s).i).text)⟩) (.int .i64 0) (.int .i64 (tk T s.i).pos) (.slice (some ⟨Z, 0, none⟩) 1 1)
    obtain ⟨⟨⟨q0, q1, q2, q3, q4⟩, _⟩, _, _⟩ := hZ.c5
    have hout := Lib.hid (hZ.out (k := 6) (tx := (tk T (mTake T s).i).text) (n := 0) (a := (tk T s.i).pos) mem0)
    clear hR hZ hA
    go_wp21
    exact bodyPost_ret (v := .agg #[.int .i64 6, .string ⟨List.toArray ((tk T (mTake T s).i).text)⟩, .int .i64 0, .int .i64 (tk T s.i).pos, .slice (some ⟨Z, 0, none⟩) 1 1]) (by simp [results, Tryz.results77, go_sem, q0, q1, q2, q3, q4]) rfl (hres3.out ▸ hout.out)
  clear hA
  intro hi W hA
  replace hres := Lib.hid (by have h' := hres.out; rw [if_neg (by rw [hi]; decide)] at h'; exact h')
  go_wp2_with fail
  refine hA.cIs [112, 114, 111, 98, 108, 101, 109] ?_ ?_
  rotate_left
  · clear hA
    intro hi W hA
    replace hres := Lib.hid (by have h' := hres.out; rw [if_pos hi] at h'; exact h')
    go_wp2_with fail
    refine hA.cTake ?_
    clear hA
    intro W hA
    go_wp2_with fail
    refine hA.cName ?_
    clear hA
    intro g1 m1 cp1 W hA
    obtain ⟨⟨x0, x1, x2, x3, x4⟩, x5⟩ := own5 (hA.loc _ mem0)
    have x6 := hA.lt mem0
    go_upto_region 29 with (fail)
    replace hA := (hA.set0 (.int .i64 7)).set1 (.string ⟨(tk T (mTake T s).i).text.toArray⟩)
    clear x0 x1 x2 x3 x4 x5 x6
    generalize World.setCell (World.setCell W _ _) _ _ = W at hA ⊢
    have hres3 := Lib.hid (Option.some.inj hres.out)
    generalize hs1 : (mName reservedB T (mTake T s)).2 = s1 at hA hres3
    go_wp2_with fail
    refine hA.cNeed [61] ?_
    clear hA
    intro W hA
    go_wp2_with fail
    refine hA.cName ?_
    clear hA
    intro g2 m2 cp2 W hA
    go_upto_region 31 with (fail)
    replace hA := hA.alloc [.int .i64 8, .string ⟨List.toArray ((tk T (mNeed T [61] s1).i).text)⟩, .int .i64 0, .int .i64 (tk T (mNeed T [61] s1).i).pos, .slice g2 m2 cp2] 26
    generalize W.heap.size = P at hA ⊢
    generalize World.alloc W _ = W at hA ⊢
    generalize hs2 : (mName reservedB T (mNeed T [61] s1)).2 = s2 at hA hres3
    go_wp2_with fail
    refine hA.cNeed [117, 110, 100, 101, 114] ?_
    clear hA
    intro W hA
    go_wp2_with fail
    refine hA.cName ?_
    clear hA
    intro g3 m3 cp3 W hA
    go_upto_region 33 with (fail)
    replace hA := hA.alloc [.int .i64 8, .string ⟨List.toArray ((tk T (mNeed T [117, 110, 100, 101, 114] s2).i).text)⟩, .int .i64 0, .int .i64 (tk T (mNeed T [117, 110, 100, 101, 114] s2).i).pos, .slice g3 m3 cp3] 26
    generalize W.heap.size = Q at hA ⊢
    generalize World.alloc W _ = W at hA ⊢
    generalize hs3 : (mName reservedB T (mNeed T [117, 110, 100, 101, 114] s2)).2 = s3 at hA hres3
    go_wp2_with fail
    refine hA.cNeed [114, 111, 117, 110, 100, 115] ?_
    clear hA
    intro W hA
    go_wp2_with fail
    refine hA.cNumber ?_
    clear hA
    intro g4 m4 cp4 W hA
    replace hA := hA.rot3
    obtain ⟨⟨x0, x1, x2, x3, x4⟩, x5⟩ := own5 (hA.loc _ mem0)
    have x6 := hA.lt mem0
    go_upto_region 35 with (fail)
    replace hA := hA.set2 (.int .i64 (mVal (tk T (mNeed T [114, 111, 117, 110, 100, 115] s3).i).text))
    clear x0 x1 x2 x3 x4 x5 x6
    generalize World.setCell W _ _ = W at hA ⊢
    obtain ⟨⟨x0, x1, x2, x3, x4⟩, x5⟩ := own5 (hA.loc _ mem0)
    have x6 := hA.lt mem0
    obtain ⟨⟨l0, l1, l2, l3, l4⟩, -⟩ := own5 (hA.loc _ mem1)
    obtain ⟨⟨k0, k1, k2, k3, k4⟩, -⟩ := own5 (hA.loc _ mem2)
    go_upto_region 36 with (fail)
    replace hA := (hA.set4 (.slice (some ⟨W.heap.size, 0, none⟩) 2 2)).slice2 (k := 8) (tx := (tk T (mNeed T [61] s1).i).text) (n := 0) (a := (tk T (mNeed T [61] s1).i).pos) (k' := 8) (tx' := (tk T (mNeed T [117, 110, 100, 101, 114] s2).i).text) (n' := 0) (a' := (tk T (mNeed T [117, 110, 100, 101, 114] s2).i).pos) mem2 mem1
    simp only [setCell_size] at hA
    clear x0 x1 x2 x3 x4 x5 x6 l0 l1 l2 l3 l4 k0 k1 k2 k3 k4
    generalize World.alloc (World.setCell W _ _) _ = W' at hA ⊢
    generalize W.heap.size = Z at hA ⊢
    clear W
    rename_i W
    replace hA := hA.swap.drop.swap.drop
    go_wp2_with fail
    refine hA.cNeed [59] ?_
    clear hA
    intro W hA
    go_upto_region 37 with (fail)
    obtain ⟨⟨z0, z1, z2, z3, z4⟩, _⟩ := own5 (hA.loc _ mem0)
    have hR := hA.one (x := (B, z5, 26)) mem2
    have hsb := hR.blk
    have hZ := hR.setSyn (.int .i64 7) (.string ⟨List.toArray ((tk T (mTake T s).i).text)⟩) (.int .i64 (mVal (tk T (mNeed T [114, 111, 117, 110, 100, 115] s3).i).text)) (.int .i64 (tk T s.i).pos) (.slice (some ⟨Z, 0, none⟩) 2 2)
    obtain ⟨⟨⟨q0, q1, q2, q3, q4⟩, _⟩, _, _⟩ := hZ.c5
    have hout := Lib.hid (hZ.out (k := 7) (tx := (tk T (mTake T s).i).text) (n := (mVal (tk T (mNeed T [114, 111, 117, 110, 100, 115] s3).i).text)) (a := (tk T s.i).pos) mem0)
    clear hR hZ hA
    go_wp21
    exact bodyPost_ret (v := .agg #[.int .i64 7, .string ⟨List.toArray ((tk T (mTake T s).i).text)⟩, .int .i64 (mVal (tk T (mNeed T [114, 111, 117, 110, 100, 115] s3).i).text), .int .i64 (tk T s.i).pos, .slice (some ⟨Z, 0, none⟩) 2 2]) (by simp [results, Tryz.results77, go_sem, q0, q1, q2, q3, q4]) rfl (hres3.out ▸ hout.out)
  clear hA
  intro hi W hA
  replace hres := Lib.hid (by have h' := hres.out; rw [if_neg (by rw [hi]; decide)] at h'; exact h')
  have hres3 := Lib.hid (Option.some.inj hres.out)
  go_wp2_with fail
  refine hA.cFail 4 (by decide) ?_
  clear hA
  intro W hA
  go_wp2_with fail
  refine hA.cNeed [59] ?_
  clear hA
  intro W hA
  go_upto_region 37 with (fail)
  obtain ⟨⟨z0, z1, z2, z3, z4⟩, _⟩ := own5 (hA.loc _ mem0)
  have hR := hA.one (x := (B, z5, 26)) mem2
  have hsb := hR.blk
  have hZ := hR.setSyn (.int .i64 0) (.string ⟨List.toArray ([])⟩) (.int .i64 0) (.int .i64 (tk T s.i).pos) (.slice none 0 0)
  obtain ⟨⟨⟨q0, q1, q2, q3, q4⟩, _⟩, _, _⟩ := hZ.c5
  have hout := Lib.hid (hZ.out (k := 0) (tx := []) (n := 0) (a := (tk T s.i).pos) mem0)
  clear hR hZ hA
  go_wp21
  exact bodyPost_ret (v := .agg #[.int .i64 0, .string ⟨List.toArray ([])⟩, .int .i64 0, .int .i64 (tk T s.i).pos, .slice none 0 0]) (by simp [results, Tryz.results77, go_sem, q0, q1, q2, q3, q4]) rfl (hres3.out ▸ hout.out)
end Go.Proofs.YtekccolabhfopaaGreatDoor
end
