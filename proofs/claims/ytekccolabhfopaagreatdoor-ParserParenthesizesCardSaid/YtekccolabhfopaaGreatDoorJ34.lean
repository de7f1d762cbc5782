/- Joined: RpP. -/
import Derived.Test.YtekccolabhfopaaGreatDoorJ28
import Derived.Test.YtekccolabhfopaaGreatDoorJ30
import Derived.Test.YtekccolabhfopaaGreatDoorJ31
import Derived.Test.YtekccolabhfopaaGreatDoorJ32
import Derived.Test.YtekccolabhfopaaGreatDoorJ33
set_option linter.unusedVariables false
set_option linter.unusedSimpArgs false
section
/- Walks: program of the reference's parser; all its readers, by fuel. -/
set_option maxHeartbeats 2000000
set_option maxRecDepth 100000
namespace Go.Proofs.YtekccolabhfopaaGreatDoor
open Go.RowKit
attribute [local go_sem ↓] Go.wp_at_zero Go.wp_at_succ
attribute [local go_sem ↓] app_open
def RProgInv (pb tb c f B N : Nat) (T : List Tok) (p num : Int) (w : World) (o : Syn × St) (g : Nat) (wr : World) : Prop :=
  ∃ ks ga kc s, ks.length + g ≤ T.length + 4 ∧ AtR pb tb c T w [(N, [.int .i64 0, .string ⟨#[]⟩, .int .i64 num, .int .i64 p, .slice ga ks.length kc], 26), (B, z5, 26)] [] (ks, .slice ga ks.length kc) s wr ∧ Lv s ∧
    ((mDeclLoop reservedB T f g ks s).bind fun q => some (Syn.mk 0 [] num p q.1, q.2)) = some o
theorem decl_tame (f : Nat) (T : List Tok) : Tame (mDecl reservedB T f) := fun s t s' h => by
  have hopt : ∀ k w xs, TameA (mOpt reservedB T f k w xs) := fun k w xs s t s' h => by
    unfold mOpt at h
    split at h
    · refine tame_step (part_tame f k w) h fun p hp _ h1 h2 => ?_
      cases hp; exact ⟨h1, h2⟩
    · cases h; exact ⟨rfl, id⟩
  unfold mDecl at h
  obtain ⟨⟨pt, ps⟩, hp, he⟩ := Option.bind_eq_some_iff.1 h
  cases he
  have key : ps.lv = s.lv ∧ (ps.er = 0 → s.er = 0) := by
    dsimp only at hp
    split at hp
    · refine tame_step (hopt _ _ _) hp fun q hq _ h1 h2 => ?_
      refine tame_step (part_tame _ _ _) hq fun r hr _ h3 h4 => ?_
      refine tame_step (hopt _ _ _) hr fun u hu _ h5 h6 => ?_
      cases hu
      rw [mNumber_lv, mNeed_lv, mNumber_lv, mNeed_lv, mName_lv, mTake_lv] at h1
      exact ⟨h5.trans (h3.trans h1), fun e => mTake_z (mName_z (mNeed_z (mNumber_z (mNeed_z (mNumber_z (h2 (h4 (h6 e))))))))⟩
    split at hp
    · refine tame_step (mrd_tame _ _) hp fun q hq _ h1 h2 => ?_
      cases hq
      rw [mNeed_lv, mName_lv, mTake_lv] at h1
      exact ⟨h1, fun e => mTake_z (mName_z (mNeed_z (h2 e)))⟩
    split at hp
    · refine tame_step (mrd_tame _ _) hp fun q hq _ h1 h2 => ?_
      cases hq
      rw [mNeed_lv, mName_lv, mTake_lv] at h1
      exact ⟨h1, fun e => mTake_z (mName_z (mNeed_z (h2 e)))⟩
    split at hp
    · cases hp
      exact ⟨by rw [mNumber_lv, mNeed_lv, mName_lv, mNeed_lv, mName_lv, mNeed_lv, mName_lv, mTake_lv], fun e => mTake_z (mName_z (mNeed_z (mName_z (mNeed_z (mName_z (mNeed_z (mNumber_z e)))))))⟩
    · cases hp; exact ⟨mFail_lv _ _ _, mFail4_z⟩
  exact ⟨(mNeed_lv _ _ _).trans key.1, fun e => key.2 (mNeed_z e)⟩
theorem rprogram_any (pb tb c f : Nat) (T : List Tok) (s : St) (w : World) (o : Syn × St) (h : PR pb tb c T s w) (hlv : Lv s)
    (hdecl : ∀ W s o, PR pb tb c T s W → Lv s → mDecl reservedB T f s = some o → Calls Tryz.prog 77 #[.pointer (some ⟨pb, 0, none⟩)] W (ROut pb tb c T W o.1 o.2))
    (hres : mProgram reservedB T f s = some o) : Calls Tryz.prog 46 #[.pointer (some ⟨pb, 0, none⟩)] w (ROut pb tb c T w o.1 o.2) := by
  have hA := (AtR.begin h).alloc z5 26
  unfold mProgram at hres
  dsimp only at hres
  have hsz := h.size
  replace hres := Lib.hid hres
  replace hdecl := Lib.hid (fun s o {W} h hlv hm => hdecl W s o h hlv hm)
  clear h
  go_enter Tryz.func46, Tryz.ntmps46
  go_wp2_with fail
  generalize w.heap.size = B at hA ⊢
  refine hA.cTok ?_
  clear hA
  intro W hA
  go_upto_region 2 with (fail)
  replace hA := hA.leaf.alloc [.int .i64 0, .string ⟨#[]⟩, .int .i64 0, .int .i64 (tk T s.i).pos, .slice none 0 0] 26
  generalize W.heap.size = N at hA ⊢
  generalize World.alloc W _ = W at hA ⊢
  generalize (tk T s.i).pos = p at hA hres ⊢
  go_wp2_with fail
  refine hA.cNeed [112, 114, 111, 99, 101, 115, 115, 101, 115] ?_
  clear hA
  intro W hA
  go_wp2_with fail
  refine hA.cNumber ?_
  clear hA
  intro g1 m1 cp1 W hA
  obtain ⟨⟨x0, x1, x2, x3, x4⟩, x5⟩ := own5 (hA.loc _ mem0)
  have x6 := hA.lt mem0
  go_upto_region 4 with (fail)
  replace hA := hA.set2 (.int .i64 (mVal (tk T (mNeed T [112, 114, 111, 99, 101, 115, 115, 101, 115] s).i).text))
  clear x0 x1 x2 x3 x4 x5 x6
  generalize World.setCell W _ _ = W at hA ⊢
  have hnm : (mNumber T (mNeed T [112, 114, 111, 99, 101, 115, 115, 101, 115] s)).1.num = mVal (tk T (mNeed T [112, 114, 111, 99, 101, 115, 115, 101, 115] s).i).text := rfl
  rw [hnm] at hres
  clear hnm
  generalize mVal (tk T (mNeed T [112, 114, 111, 99, 101, 115, 115, 101, 115] s).i).text = num at hA hres ⊢
  go_wp2_with fail
  refine hA.cNeed [59] ?_
  clear hA
  intro W hA
  have hLv1 : Lv (mNeed T [59] (mNumber T (mNeed T [112, 114, 111, 99, 101, 115, 115, 101, 115] s)).2) := hlv.need.number.need
  generalize mNeed T [59] (mNumber T (mNeed T [112, 114, 111, 99, 101, 115, 115, 101, 115] s)).2 = s1 at hA hres hLv1
  have hinv := Lib.hid (show RProgInv pb tb c f B N T p num w o (T.length + 2) W from ⟨[], none, 0, s1, by simp only [List.length_nil]; omega, hA.weak (fun _ h => (List.not_mem_nil h).elim), hLv1, hres.out⟩)
  clear hA hres hLv1
  go_wp2_with fail
  go_loopg [16] (T.length + 2) (fun g _ wr => RProgInv pb tb c f B N T p num w o g wr)
  case atStart => exact hinv.out
  case round =>
    obtain ⟨ks, ga, kc, s2, hlen, hA, hLv, hres⟩ := hrel
    obtain ⟨g', rfl⟩ : ∃ g', gk = g' + 1 := by
      cases gk with
      | zero => cases hres
      | succ g' => exact ⟨g', rfl⟩
    rw [mDeclLoop] at hres
    replace hres := Lib.hid hres
    clear hinv
    have hle : ks.length ≤ 1000000 := by omega
    obtain ⟨d0, d1, d2, d3, d4⟩ := hA.ps.cells
    by_cases h2 : s2.er = 0
    · have hb2 : (s2.er == 0) = true := by rw [beq_iff_eq]; exact h2
      replace h2 := Lib.hid h2
      go_wp2_with fail
      refine hA.cTok ?_
      clear hA d0 d1 d2 d3 d4
      intro W hA
      by_cases h3 : (tk T s2.i).kind = 3
      · have hb3 : ((tk T s2.i).kind != 3) = false := by rw [bne_eq_false_iff_eq]; exact h3
        have hres3 := hres.out
        rw [if_neg (fun k => k.2 h3)] at hres3
        replace hres3 := Lib.hid (Option.some.inj hres3)
        replace h3 := Lib.hid h3
        go_upto_region 7 with (fail)
        replace hA := hA.close
        obtain ⟨⟨z0, z1, z2, z3, z4⟩, _⟩ := own5 (hA.loc _ mem0)
        have hR := hA.one (x := (B, z5, 26)) mem1
        have hsb := hR.blk
        have hZ := hR.setSyn (.int .i64 0) (.string ⟨List.toArray ([])⟩) (.int .i64 num) (.int .i64 p) (.slice ga ks.length kc)
        obtain ⟨⟨⟨q0, q1, q2, q3, q4⟩, _⟩, _, _⟩ := hZ.c5
        have hout := Lib.hid (hZ.out (k := 0) (tx := []) (n := num) (a := p) mem0)
        clear hR hZ hA
        go_wp21
        exact bodyPost_ret (v := .agg #[.int .i64 0, .string ⟨List.toArray ([])⟩, .int .i64 num, .int .i64 p, .slice ga ks.length kc]) (by simp [results, Tryz.results46, go_sem, q0, q1, q2, q3, q4]) rfl (hres3.out ▸ hout.out)
      · have hb3 : ((tk T s2.i).kind != 3) = true := by rw [bne_iff_ne]; exact h3
        have hres2 := hres.out
        rw [if_pos ⟨h2.out, h3⟩, Option.bind_assoc] at hres2
        replace hres2 := Lib.hid hres2
        replace h3 := Lib.hid h3
        clear hres
        go_upto_region 6 with (fail)
        generalize hvr : Value.slice ga ks.length kc = vrow at hA
        clear hvr
        have hA10 := hA.drew
        have hc10 := hA10.c5
        refine' cut_in ?kkb ?ffb
        case ffb =>
          intro key
          go_region_with (first
            | (go_at_call 77; refine hA10.cRd1 hLv hres2.out (decl_tame f T) (fun o ho => hdecl.out _ o hA10.ps hLv ho) ?_; intro k2 tx2 n2 a2 kids2 s2 g2 m2 cp2 w11 hres11 hlv11 hLv11 hA11; have hc11 := hA11.c5)
            | (refine AtR.stepApp' (hA11.junk _) hle (List.mem_cons_self ..) (heap_alloc_new _ _) (by rfl) (by rfl) (by rfl) (by rfl) ?_; intro g12 cap12 w12 hA12; have hc12 := hA12.c5))
          all_goals
            have hA13 := hA12.set4 (.slice (some ⟨g12, 0, none⟩) (ks.length + 1) cap12)
            generalize World.setCell w12 _ _ = w13 at hA13 ⊢
            clear hA11 hA12 hc12 hc11
            generalize Value.slice (some { block := w11.heap.size, off := 0 }) 1 1 = s22 at ⊢
            clear w11 w12 hlv11
            revert hA13
            revert hres11 hLv11
            revert w13
            revert s22
            revert g12
            revert cap12
            revert cp2 m2 g2 s2 kids2 a2 n2 tx2 k2
            exact key.out
        intro k2 tx2 n2 a2 kids2 s2 g2 m2 cp2 cap12 g12 s22 W hres11 hLv11 hA
        clear hA10 hc10
        have hI := Lib.hid (show RProgInv pb tb c f B N T p num w o g' W from ⟨ks ++ [.mk k2 tx2 n2 a2 kids2], some ⟨g12, 0, none⟩, cap12, s2, by simp; omega, by simpa using hA.weak (ts' := []) (fun _ h => (List.not_mem_nil h).elim), hLv11, hres11⟩)
        clear hA hres2
        go_wp2_with fail
        go_roundg g'
        case measure => omega
        case rel => exact hI.out
    · have hb2 : (s2.er == 0) = false := by rw [beq_eq_false_iff_ne]; exact h2
      have hres3 := hres.out
      rw [if_neg (fun k => h2 k.1)] at hres3
      replace hres3 := Lib.hid (Option.some.inj hres3)
      replace h2 := Lib.hid h2
      go_upto_region 7 with (fail)
      replace hA := hA.close
      obtain ⟨⟨z0, z1, z2, z3, z4⟩, _⟩ := own5 (hA.loc _ mem0)
      have hR := hA.one (x := (B, z5, 26)) mem1
      have hsb := hR.blk
      have hZ := hR.setSyn (.int .i64 0) (.string ⟨List.toArray ([])⟩) (.int .i64 num) (.int .i64 p) (.slice ga ks.length kc)
      obtain ⟨⟨⟨q0, q1, q2, q3, q4⟩, _⟩, _, _⟩ := hZ.c5
      have hout := Lib.hid (hZ.out (k := 0) (tx := []) (n := num) (a := p) mem0)
      clear hR hZ hA
      go_wp21
      exact bodyPost_ret (v := .agg #[.int .i64 0, .string ⟨List.toArray ([])⟩, .int .i64 num, .int .i64 p, .slice ga ks.length kc]) (by simp [results, Tryz.results46, go_sem, q0, q1, q2, q3, q4]) rfl (hres3.out ▸ hout.out)
/-- The function that a reader's name stands for, and what it is handed beside the parser. -/
def mFn (pb : Nat) : NT → Nat × Array Value
  | .cond => (78, #[.pointer (some ⟨pb, 0, none⟩), .int .i64 0])
  | .conj => (78, #[.pointer (some ⟨pb, 0, none⟩), .int .i64 1])
  | .neg => (121, #[.pointer (some ⟨pb, 0, none⟩)])
  | .sum => (78, #[.pointer (some ⟨pb, 0, none⟩), .int .i64 3])
  | .unit => (122, #[.pointer (some ⟨pb, 0, none⟩)])
  | .scheme => (78, #[.pointer (some ⟨pb, 0, none⟩), .int .i64 4])
  | .term => (78, #[.pointer (some ⟨pb, 0, none⟩), .int .i64 5])
  | .factor => (123, #[.pointer (some ⟨pb, 0, none⟩)])
  | .atom => (138, #[.pointer (some ⟨pb, 0, none⟩)])
  | .formula => (49, #[.pointer (some ⟨pb, 0, none⟩)])
  | .disj => (78, #[.pointer (some ⟨pb, 0, none⟩), .int .i64 6])
  | .meet => (78, #[.pointer (some ⟨pb, 0, none⟩), .int .i64 7])
  | .lit => (124, #[.pointer (some ⟨pb, 0, none⟩)])
theorem rrd_any (pb tb c : Nat) (T : List Tok) (f : Nat) : (∀ nt, nt ≠ .atom → RdM pb tb c T (mFn pb nt).1 (mFn pb nt).2 (mrd reservedB T f nt)) ∧
    (∀ W s o, PR pb tb c T s W → s.lv ≤ 128 → mrd reservedB T f .atom s = some o → Calls Tryz.prog 138 #[.pointer (some ⟨pb, 0, none⟩)] W (ROut pb tb c T W o.1 o.2)) := by
  induction f with
  | zero => exact ⟨fun nt _ => RdM.of (mrd_tame 0 nt) fun _ _ _ _ _ h => (by cases h), fun _ _ _ _ _ h => by cases h⟩
  | succ f ih =>
    have hcond := rcondition_of pb tb c T _ (ih.1 .cond (by decide))
    have hsch := rscheme_of pb tb c T _ (ih.1 .scheme (by decide))
    have hfor := ih.1 .formula (by decide)
    refine ⟨fun nt hnt => RdM.of (mrd_tame (f + 1) nt) fun W s o h hlv hm => ?_, fun W s o h hl hm => ratom_any pb tb c f T s W o h hl hcond hsch hm⟩
    cases nt with
    | cond => exact rleft_0 pb tb c T s W _ o h hlv (roperand_0 pb tb c T _ (ih.1 .conj (by decide))) hm
    | conj => exact rleft_1 pb tb c T s W _ o h hlv (roperand_1 pb tb c T _ (ih.1 .neg (by decide))) hm
    | neg => exact rnegation_any pb tb c f T s W o h hlv (ih.1 .neg (by decide)) hcond (ih.1 .sum (by decide)) hm
    | sum => exact rleft_3 pb tb c T s W _ o h hlv (roperand_3 pb tb c T _ (ih.1 .unit (by decide))) hm
    | unit => exact runit_any pb tb c f T s W o h hlv hcond (ih.1 .sum (by decide)) hm
    | scheme => exact rleft_4 pb tb c T s W _ o h hlv (roperand_4 pb tb c T _ (ih.1 .term (by decide))) hm
    | term => exact rleft_5 pb tb c T s W _ o h hlv (roperand_5 pb tb c T _ (ih.1 .factor (by decide))) hm
    | factor => exact rfactor_any pb tb c f T s W o h hlv ih.2 (ih.1 .factor (by decide)) hm
    | atom => exact absurd rfl hnt
    | formula => exact rformula_any pb tb c f T s W o h hlv (ih.1 .disj (by decide)) hfor hm
    | disj => exact rleft_6 pb tb c T s W _ o h hlv (roperand_6 pb tb c T _ (ih.1 .meet (by decide))) hm
    | meet => exact rleft_7 pb tb c T s W _ o h hlv (roperand_7 pb tb c T _ (ih.1 .lit (by decide))) hm
    | lit => exact rliteral_any pb tb c f T s W o h hlv (ih.1 .lit (by decide)) hfor (rargs_any pb tb c T _ hfor) hm
theorem rcond_rd (pb tb c : Nat) (T : List Tok) (f : Nat) : RdM pb tb c T 47 #[.pointer (some ⟨pb, 0, none⟩)] (mrd reservedB T f .cond) := rcondition_of pb tb c T _ ((rrd_any pb tb c T f).1 .cond (by decide))
theorem rsch_rd (pb tb c : Nat) (T : List Tok) (f : Nat) : RdM pb tb c T 48 #[.pointer (some ⟨pb, 0, none⟩)] (mrd reservedB T f .scheme) := rscheme_of pb tb c T _ ((rrd_any pb tb c T f).1 .scheme (by decide))
theorem rfor_rd (pb tb c : Nat) (T : List Tok) (f : Nat) : RdM pb tb c T 49 #[.pointer (some ⟨pb, 0, none⟩)] (mrd reservedB T f .formula) := (rrd_any pb tb c T f).1 .formula (by decide)
/-- A whole program. -/
theorem rprog_rd (pb tb c : Nat) (T : List Tok) (f : Nat) (W : World) (s : St) (o : Syn × St) (h : PR pb tb c T s W) (hlv : Lv s) (hm : mProgram reservedB T f s = some o) :
    Calls Tryz.prog 46 #[.pointer (some ⟨pb, 0, none⟩)] W (ROut pb tb c T W o.1 o.2) :=
  rprogram_any pb tb c f T s W o h hlv (fun W s o h hlv hm => rdecl_any pb tb c f T s W o h hlv (rcond_rd pb tb c T f) (rsch_rd pb tb c T f) (rfor_rd pb tb c T f) hm) hm
end Go.Proofs.YtekccolabhfopaaGreatDoor
end
