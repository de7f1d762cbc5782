/- Walks of functions, and plain facts. -/
import Derived.Deep.LoopGhost
import Derived.RegionTactic
import Derived.Test.YtplbfmcgddnkeaaGreatDoorC38
import Derived.Test.YtplbfmcgddnkeaaGreatDoorC17
import Derived.Test.YtplbfmcgddnkeaaGreatDoorC25
set_option linter.unusedVariables false
set_option linter.unusedSimpArgs false
set_option maxHeartbeats 20000000
set_option maxRecDepth 100000
namespace Go.Proofs.YtplbfmcgddnkeaaGreatDoor
open Go.RowKit
section
attribute [local go_sem ↓] Go.wp_at_zero Go.wp_at_succ
theorem AtR.state {pb tb c o : Nat} {T : List Tok} {w0 W : World} {L : List Loc} {ts : List (List Syn × Value)} {rs : List Syn × Value} {s s' : St} {v : Value} (h : AtR pb tb c T w0 L ts rs s W)
  (hv : (#[Value.slice (some ⟨tb, 0, none⟩) T.length c, .int .i64 s.i, .int .i64 s.lv, .int .i64 s.er, .int .i64 s.ps].setIfInBounds o v) = #[.slice (some ⟨tb, 0, none⟩) T.length c, .int .i64 s'.i, .int .i64 s'.lv, .int .i64 s'.er, .int .i64 s'.ps])
  (hi : s'.i < T.length) (hl : s'.lv ≤ 129) : AtR pb tb c T w0 L ts rs s' (W.setCell ⟨pb, o, none⟩ v) := h.call (Only.set _ _ _ _) (h.ps.setP hv hi hl)
theorem Qpq (pb tb c : Nat) (T : List Tok) (s : St) (w : World) (h : PR pb tb c T s w) :
  Calls Tryz.prog 90 #[.pointer (some ⟨pb, 0, none⟩)] w (SOut pb tb c T w (Q8 T s) (Q4w (tk T s.i))) := by
 have hA1 := (AtR.begin h).alloc [.int .i64 0, .string ⟨#[]⟩, .int .i64 0] 45
 have hmt : Q8 T s = if s.er = 0 ∧ (tk T s.i).kind ≠ 3 then ⟨s.i + 1, s.lv, s.er, s.ps⟩ else s := rfl
 have hnx : (tk T s.i).kind ≠ 3 → s.i + 1 < T.length := fun hk => (Q04 h.last h.lt hk).1 ▸ (Q04 h.last h.lt hk).2
 have hT := Qau pb tb c T s _ hA1.ps
 have hlt := h.lt
 have hpB := h.pos
 have hsz := h.size
 have hlv := h.level
 have hi0 : (0 : Int) ≤ (s.i : Int) := by omega
 have hi1 : (s.i : Int) < (T.length : Int) := by omega
 have hi2 : (s.i : Int) ≤ 100000 := by omega
 clear h
 generalize tk T s.i = t at *
 generalize Q8 T s = s' at *
 obtain ⟨kd, tx, ps⟩ := t
 simp only at hmt hnx
 simp only [Q4w] at hT ⊢
 generalize hB : w.heap.size = B at *
 replace hmt := qh hmt
 replace hnx := qh hnx
 replace hlv := qh hlv
 go_enter Tryz.func90, Tryz.ntmps90
 go_wp2_with fail
 refine hA1.cStep hT ?_
 intro w2 hA2
 have hp2 := hA2.ps.pos
 have f2 := hA2.ps.frozen
 obtain ⟨d0, d1, d2, d3, d4⟩ := hA2.ps.cells
 have hA3 := hA2.alloc [.int .i64 kd, .string ⟨tx.toArray⟩, .int .i64 ps] 45
 obtain ⟨⟨⟨r0, r1, r2⟩, _⟩, _⟩ := hA3.c3
 obtain ⟨⟨_, q0⟩, q1⟩ := hA3.swap.c3
 clear hA1 hA2
 by_cases h0 : s.er = 0
 ·have hb : (s.er == 0) = true := by rw [beq_iff_eq]; exact h0
  by_cases h3 : kd = 3
  ·have hb3 : (kd != 3) = false := by rw [bne_eq_false_iff_eq]; exact h3
   have hs' : s' = s := hmt.out.trans (if_neg (fun k => k.2 h3))
   subst hs'
   have hA4 := ((hA3.swap.setCell 0 (.int .i64 kd)).setCell 1 (.string ⟨tx.toArray⟩)).setCell 2 (.int .i64 ps)
   obtain ⟨⟨⟨u0, u1, u2⟩, _⟩, _⟩ := hA4.c3
   replace hA3 := qh hA3
   replace hA4 := qh hA4
   replace h3 := qh h3
   replace h0 := qh h0
   go_wp21
   exact bodyPost_ret (v := .agg #[.int .i64 kd, .string ⟨tx.toArray⟩, .int .i64 ps]) (by simp [results, Tryz.results90, go_sem, u0, u1, u2]) rfl ⟨rfl, hA4.out.ps, hA4.out.only⟩
  ·have hb3 : (kd != 3) = true := by rw [bne_iff_ne]; exact h3
   have hs' : s' = ⟨s.i + 1, s.lv, s.er, s.ps⟩ := hmt.out.trans (if_pos ⟨h0, h3⟩)
   subst hs'
   have hA3' := hA3.state (o := 1) (s' := ⟨s.i + 1, s.lv, s.er, s.ps⟩) (v := .int .i64 ((s.i : Int) + 1)) (by simp) (hnx.out h3) hlv.out
   generalize hw3 : World.setCell (World.alloc w2 _) _ _ = w3 at hA3'
   obtain ⟨⟨⟨y0, y1, y2⟩, _⟩, _⟩ := hA3'.c3
   obtain ⟨⟨⟨x0, x1, x2⟩, z0⟩, z1⟩ := hA3'.swap.c3
   have hA4 := ((hA3'.swap.setCell 0 (.int .i64 kd)).setCell 1 (.string ⟨tx.toArray⟩)).setCell 2 (.int .i64 ps)
   replace hA3' := qh hA3'
   obtain ⟨⟨⟨u0, u1, u2⟩, _⟩, _⟩ := hA4.c3
   replace hA3 := qh hA3
   replace hA4 := qh hA4
   replace h3 := qh h3
   replace h0 := qh h0
   go_wp21
   exact bodyPost_ret (v := .agg #[.int .i64 kd, .string ⟨tx.toArray⟩, .int .i64 ps]) (by simp [results, Tryz.results90, go_sem, u0, u1, u2]) rfl ⟨rfl, hA4.out.ps, hA4.out.only⟩
 ·have hb : (s.er == 0) = false := by rw [beq_eq_false_iff_ne]; exact h0
  have hs' : s' = s := hmt.out.trans (if_neg (fun k => h0 k.1))
  subst hs'
  have hA4 := ((hA3.swap.setCell 0 (.int .i64 kd)).setCell 1 (.string ⟨tx.toArray⟩)).setCell 2 (.int .i64 ps)
  obtain ⟨⟨⟨u0, u1, u2⟩, _⟩, _⟩ := hA4.c3
  replace hA3 := qh hA3
  replace hA4 := qh hA4
  replace h0 := qh h0
  go_wp21
  exact bodyPost_ret (v := .agg #[.int .i64 kd, .string ⟨tx.toArray⟩, .int .i64 ps]) (by simp [results, Tryz.results90, go_sem, u0, u1, u2]) rfl ⟨rfl, hA4.out.ps, hA4.out.only⟩
section
variable {pb tb c : Nat} {T : List Tok} {w0 W : World} {L : List Loc} {ts : List (List Syn × Value)} {rs : List Syn × Value} {s : St} {Post : Ending → World → Prop}
theorem AtR.cTok (h : AtR pb tb c T w0 L ts rs s W) (hgo : ∀ w', AtR pb tb c T w0 L ts rs s w' → Post (.returned (.agg #[.int .i64 (tk T s.i).kind, .string ⟨(tk T s.i).text.toArray⟩, .int .i64 (tk T s.i).pos])) w') :
  Calls Tryz.prog 48 #[.pointer (some ⟨pb, 0, none⟩)] W Post := h.cStep (Qau pb tb c T s W h.ps) hgo
theorem AtR.cTake (h : AtR pb tb c T w0 L ts rs s W) (hgo : ∀ w', AtR pb tb c T w0 L ts rs (Q8 T s) w' → Post (.returned (.agg #[.int .i64 (tk T s.i).kind, .string ⟨(tk T s.i).text.toArray⟩, .int .i64 (tk T s.i).pos])) w') :
  Calls Tryz.prog 90 #[.pointer (some ⟨pb, 0, none⟩)] W Post := h.cStep (Qpq pb tb c T s W h.ps) hgo
theorem AtR.cFail (e : Nat) (he : e ≠ 0) (h : AtR pb tb c T w0 L ts rs s W) (hgo : ∀ w', AtR pb tb c T w0 L ts rs (Qq T e s) w' → Post (.returned (.tuple #[])) w') :
  Calls Tryz.prog 49 #[.pointer (some ⟨pb, 0, none⟩), .int .i64 e] W Post := h.cStep (Qdl pb tb c T s W e he h.ps) hgo
end
theorem Qik (pb tb c : Nat) (T : List Tok) (s : St) (w : World) (x : List UInt8) (h : PR pb tb c T s w) :
  Calls Tryz.prog 89 #[.pointer (some ⟨pb, 0, none⟩), .string ⟨x.toArray⟩] w (SOut pb tb c T w s (.bool (isW T [x] s.i))) := by
 have hA1 := AtR.begin h
 clear h
 have hr : isW T [x] s.i = ((decide ((tk T s.i).kind = 2) || decide ((tk T s.i).kind = 0)) && [x].contains (tk T s.i).text) := rfl
 have hT := fun {Post} => hA1.cTok (Post := Post)
 generalize tk T s.i = t at *
 obtain ⟨kd, tx, ps⟩ := t
 simp only at hr hT
 replace hr := qh hr
 go_enter Tryz.func89, Tryz.ntmps89
 go_wp2_with fail
 refine hT ?_
 intro w2 hA2
 have hA3 := hA2.alloc [.int .i64 kd, .string ⟨tx.toArray⟩, .int .i64 ps] 45
 obtain ⟨⟨⟨r0, r1, r2⟩, _⟩, _⟩ := hA3.c3
 clear hA1 hT
 replace hA2 := qh hA2
 by_cases h0 : kd = 0
 ·have b0 : (kd == 0) = true := by rw [beq_iff_eq]; exact h0
  replace h0 := qh h0
  go_wp21
  exact bodyPost_ret (v := .bool (tx == x)) (by simp [results, Tryz.results89, go_sem]) rfl ⟨Q4 (by rw [hr.out, h0.out, Bool.eq_iff_iff]; simp), hA3.ps, hA3.only⟩
 ·have b0 : (kd == 0) = false := by rw [beq_eq_false_iff_ne]; exact h0
  replace h0 := qh h0
  by_cases h2 : kd = 2
  ·have b2 : (kd == 2) = true := by rw [beq_iff_eq]; exact h2
   replace h2 := qh h2
   go_wp21
   exact bodyPost_ret (v := .bool (tx == x)) (by simp [results, Tryz.results89, go_sem]) rfl ⟨Q4 (by rw [hr.out, h2.out, Bool.eq_iff_iff]; simp), hA3.ps, hA3.only⟩
  ·have b2 : (kd == 2) = false := by rw [beq_eq_false_iff_ne]; exact h2
   replace h2 := qh h2
   go_wp21
   exact bodyPost_ret (v := .bool false) (by simp [results, Tryz.results89, go_sem]) rfl ⟨by rw [hr.out, decide_eq_false h2.out, decide_eq_false h0.out]; rfl, hA3.ps, hA3.only⟩
section
variable {pb tb c : Nat} {T : List Tok} {w0 W : World} {L : List Loc} {ts : List (List Syn × Value)} {rs : List Syn × Value} {s : St} {Post : Ending → World → Prop}
theorem AtR.cIs (x : List UInt8) (h : AtR pb tb c T w0 L ts rs s W)
  (h0 : isW T [x] s.i = false → ∀ w', AtR pb tb c T w0 L ts rs s w' → Post (.returned (.bool false)) w')
  (h1 : isW T [x] s.i = true → ∀ w', AtR pb tb c T w0 L ts rs s w' → Post (.returned (.bool true)) w') :
  Calls Tryz.prog 89 #[.pointer (some ⟨pb, 0, none⟩), .string ⟨x.toArray⟩] W Post :=
 h.cStep (Qik pb tb c T s W x h.ps) (fun w' hw => by
  cases hb : isW T [x] s.i
  ·exact h0 hb w' hw
  ·exact h1 hb w' hw)
end
theorem Qje (pb tb c : Nat) (T : List Tok) (s : St) (w : World) (x : List UInt8) (h : PR pb tb c T s w) :
  Calls Tryz.prog 85 #[.pointer (some ⟨pb, 0, none⟩), .string ⟨x.toArray⟩] w (SOut pb tb c T w (Q7 T x s) (.tuple #[])) := by
 have hA1 := AtR.begin h
 clear h
 have hm : Q7 T x s = Q8 T (if isW T [x] s.i then s else Qq T 4 s) := rfl
 replace hm := qh hm
 generalize Q7 T x s = s' at *
 go_enter Tryz.func85, Tryz.ntmps85
 go_wp2_with fail
 refine hA1.cIs x ?_ ?_
 ·intro hb w2 hA2
  replace hm := qh (hm.out.trans (by rw [hb]; rfl : _ = Q8 T (Qq T 4 s)))
  go_wp2_with fail
  refine hA2.cFail 4 (by decide) ?_
  intro w3 hA3
  go_wp2_with fail
  refine hA3.cTake ?_
  intro w4 hA4
  rw [show Q8 T (Qq T (4 : Nat) s) = s' from hm.out.symm] at hA4
  go_wp21
  exact bodyPost_ret (v := .tuple #[]) (by simp [results, Tryz.results85, go_sem]) rfl ⟨rfl, hA4.ps, hA4.only⟩
 ·intro hb w2 hA2
  replace hm := qh (hm.out.trans (by rw [hb]; rfl : _ = Q8 T s))
  go_wp2_with fail
  refine hA2.cTake ?_
  intro w4 hA4
  rw [show Q8 T s = s' from hm.out.symm] at hA4
  go_wp21
  exact bodyPost_ret (v := .tuple #[]) (by simp [results, Tryz.results85, go_sem]) rfl ⟨rfl, hA4.ps, hA4.only⟩
theorem Qqu (pb tb c : Nat) (T : List Tok) (s : St) (w : World) (h : PR pb tb c T s w) :
  Calls Tryz.prog 170 #[.pointer (some ⟨pb, 0, none⟩)] w (SOut pb tb c T w s (.bool (Q0y Q0 T s.i))) := by
 have hA1 := AtR.begin h
 clear h
 have hr : Q0y Q0 T s.i = (decide ((tk T s.i).kind = 0) && !Q0 (tk T s.i).text) := rfl
 have hT := fun {Post} => hA1.cTok (Post := Post)
 generalize tk T s.i = t at *
 obtain ⟨kd, tx, ps⟩ := t
 simp only at hr hT
 have hR := qh (fun W => Qg7 tx W)
 generalize Q0 tx = rb at *
 replace hr := qh hr
 go_enter Tryz.func170, Tryz.ntmps170
 go_wp2_with fail
 refine hT ?_
 intro w2 hA2
 have hA3 := hA2.alloc [.int .i64 kd, .string ⟨tx.toArray⟩, .int .i64 ps] 45
 obtain ⟨⟨⟨r0, r1, r2⟩, _⟩, _⟩ := hA3.c3
 clear hA1 hT
 replace hA2 := qh hA2
 by_cases h0 : kd = 0
 ·have b0 : (kd == 0) = true := by rw [beq_iff_eq]; exact h0
  replace h0 := qh h0
  go_wp2_with fail
  (with_reducible refine (hR.out _).mono ?_); rintro e w3 ⟨rfl, b3⟩
  have hA4 := hA3.below b3
  go_wp21
  exact bodyPost_ret (v := .bool (!rb)) (by simp [results, Tryz.results170, go_sem]) rfl ⟨by rw [hr.out, h0.out]; simp, hA4.ps, hA4.only⟩
 ·have b0 : (kd == 0) = false := by rw [beq_eq_false_iff_ne]; exact h0
  replace h0 := qh h0
  go_wp21
  exact bodyPost_ret (v := .bool false) (by simp [results, Tryz.results170, go_sem]) rfl ⟨by rw [hr.out, decide_eq_false h0.out]; rfl, hA3.ps, hA3.only⟩
section
variable {pb tb c : Nat} {T : List Tok} {w0 W : World} {L : List Loc} {ts : List (List Syn × Value)} {rs : List Syn × Value} {s : St} {Post : Ending → World → Prop}
theorem AtR.cNeed (x : List UInt8) (h : AtR pb tb c T w0 L ts rs s W) (hgo : ∀ w', AtR pb tb c T w0 L ts rs (Q7 T x s) w' → Post (.returned (.tuple #[])) w') :
  Calls Tryz.prog 85 #[.pointer (some ⟨pb, 0, none⟩), .string ⟨x.toArray⟩] W Post := h.cStep (Qje pb tb c T s W x h.ps) hgo
theorem AtR.cNamed (h : AtR pb tb c T w0 L ts rs s W)
  (h0 : Q0y Q0 T s.i = false → ∀ w', AtR pb tb c T w0 L ts rs s w' → Post (.returned (.bool false)) w')
  (h1 : Q0y Q0 T s.i = true → ∀ w', AtR pb tb c T w0 L ts rs s w' → Post (.returned (.bool true)) w') :
  Calls Tryz.prog 170 #[.pointer (some ⟨pb, 0, none⟩)] W Post :=
 h.cStep (Qqu pb tb c T s W h.ps) (fun w' hw => by
  cases hb : Q0y Q0 T s.i
  ·exact h0 hb w' hw
  ·exact h1 hb w' hw)
end
theorem Qqj (pb tb c : Nat) (T : List Tok) (s : St) (w : World) (h : PR pb tb c T s w) :
  Calls Tryz.prog 137 #[.pointer (some ⟨pb, 0, none⟩)] w (ROut pb tb c T w (Q14 Q0 T s).1 (Q14 Q0 T s).2) := by
 have hA1 := (AtR.begin h).alloc z5 24
 clear h
 have hm : Q14 Q0 T s = (.mk 8 (tk T s.i).text 0 (tk T s.i).pos [], Q8 T (if Q0y Q0 T s.i then s else Qq T 4 s)) := rfl
 replace hm := qh hm
 generalize Q14 Q0 T s = o at *
 go_enter Tryz.func137, Tryz.ntmps137
 go_wp2_with fail
 refine hA1.cNamed ?_ ?_
 ·intro hb w2 hA2
  have hm2 := qh (hm.out.trans (by rw [hb]; rfl : _ = (Syn.mk 8 (tk T s.i).text 0 (tk T s.i).pos [], Q8 T (Qq T 4 s))))
  go_wp2_with fail
  refine hA2.cFail 4 (by decide) ?_
  intro w3 hA3
  go_wp2_with fail
  refine hA3.cTake ?_
  rw [Qd7]
  intro w4 hA4
  clear hA1 hA2
  go_upto_region 4 with (fail)
  have hA5 := (hA4.alloc [.int .i64 (tk T s.i).kind, .string ⟨(tk T s.i).text.toArray⟩, .int .i64 (tk T s.i).pos] 45)
  generalize World.alloc w4 _ = w5 at hA5 ⊢
  generalize w4.heap.size = M at hA5 ⊢
  clear hA4
  obtain ⟨⟨⟨r0, r1, r2⟩, _⟩, _⟩ := hA5.c3
  have hsb := hA5.swap.blk
  have hAz := hA5.swap.leaf.setSyn (.int .i64 8) (.string ⟨(tk T s.i).text.toArray⟩) (.int .i64 0) (.int .i64 (tk T s.i).pos) (.slice none 0 0)
  obtain ⟨⟨⟨s0, s1, s2, s3, s4⟩, _⟩, _, _⟩ := hAz.c5
  have hout := qh (hAz.out (k := 8) (tx := (tk T s.i).text) (n := 0) (a := (tk T s.i).pos) (List.mem_cons_self ..))
  clear hA5 hAz
  go_wp21
  exact bodyPost_ret (v := .agg #[.int .i64 8, .string ⟨(tk T s.i).text.toArray⟩, .int .i64 0, .int .i64 (tk T s.i).pos, .slice none 0 0]) (by simp [results, Tryz.results137, go_sem, s0, s1, s2, s3, s4]) rfl (hm2.out ▸ hout.out)
 ·intro hb w2 hA2
  have hm2 := qh (hm.out.trans (by rw [hb]; rfl : _ = (Syn.mk 8 (tk T s.i).text 0 (tk T s.i).pos [], Q8 T s)))
  go_wp2_with fail
  refine hA2.cTake ?_
  intro w4 hA4
  clear hA1 hA2
  go_upto_region 4 with (fail)
  have hA5 := (hA4.alloc [.int .i64 (tk T s.i).kind, .string ⟨(tk T s.i).text.toArray⟩, .int .i64 (tk T s.i).pos] 45)
  generalize World.alloc w4 _ = w5 at hA5 ⊢
  generalize w4.heap.size = M at hA5 ⊢
  clear hA4
  obtain ⟨⟨⟨r0, r1, r2⟩, _⟩, _⟩ := hA5.c3
  have hsb := hA5.swap.blk
  have hAz := hA5.swap.leaf.setSyn (.int .i64 8) (.string ⟨(tk T s.i).text.toArray⟩) (.int .i64 0) (.int .i64 (tk T s.i).pos) (.slice none 0 0)
  obtain ⟨⟨⟨s0, s1, s2, s3, s4⟩, _⟩, _, _⟩ := hAz.c5
  have hout := qh (hAz.out (k := 8) (tx := (tk T s.i).text) (n := 0) (a := (tk T s.i).pos) (List.mem_cons_self ..))
  clear hA5 hAz
  go_wp21
  exact bodyPost_ret (v := .agg #[.int .i64 8, .string ⟨(tk T s.i).text.toArray⟩, .int .i64 0, .int .i64 (tk T s.i).pos, .slice none 0 0]) (by simp [results, Tryz.results137, go_sem, s0, s1, s2, s3, s4]) rfl (hm2.out ▸ hout.out)
end
theorem Qpg (l : List UInt8) (w : World) (hl : l.length ≤ 1000000) :
  Calls Tryz.prog 136 #[.string ⟨l.toArray⟩] w fun e w' => e = .returned (.int .i64 (mVal l)) ∧ w' = w := by
 go_enter Tryz.func136, Tryz.ntmps136
 go_wp2_with fail
 go_loop [3, 4] (fun n i => ∃ k m : Nat, k ≤ l.length ∧ m ≤ 20000000 ∧ i = .int .i64 k ∧ n = .int .i64 m ∧ Hid (mVal l = Q4j m (l.drop k))) (fun _ i => l.length - (intOf i).toNat)
 case atStart => exact ⟨0, 0, by omega, by omega, rfl, rfl, show _ = _ by simp [mVal]⟩
 case round =>
  obtain ⟨k, m, hk, hm, rfl, rfl, hall⟩ := hrel
  by_cases hlt : k < l.length
  ·have hst : Hid (Q4j m (l.drop k) = if l[k].toNat < 48 ∨ 57 < l[k].toNat ∨ 1048576 < (m : Int) then 0 else Q4j (10 * (m : Int) + ((l[k].toNat : Int) - 48)) (l.drop (k + 1))) := show _ = _ by
    rw [List.drop_eq_getElem_cons hlt, Q4j]
   have hu : l[k].toNat < 256 := l[k].toNat_lt
   by_cases h1 : l[k].toNat < 48
   ·have b1 : decide ((l[k].toNat : Int) < 48) = true := by rw [decide_eq_true_eq]; omega
    go_wp2_with fail
    go_ret
    exact ⟨Q27 (by rw [hall.out, hst.out, if_pos (.inl h1)]), rfl⟩
   ·have b1 : decide ((l[k].toNat : Int) < 48) = false := by rw [decide_eq_false_iff_not]; omega
    by_cases h2 : 57 < l[k].toNat
    ·have b2 : decide ((57 : Int) < (l[k].toNat : Int)) = true := by rw [decide_eq_true_eq]; omega
     go_wp2_with fail
     go_ret
     exact ⟨Q27 (by rw [hall.out, hst.out, if_pos (.inr (.inl h2))]), rfl⟩
    ·have b2 : decide ((57 : Int) < (l[k].toNat : Int)) = false := by rw [decide_eq_false_iff_not]; omega
     by_cases h3 : (1048576 : Int) < (m : Int)
     ·have b3 : decide ((1048576 : Int) < (m : Int)) = true := by rw [decide_eq_true_eq]; omega
      go_wp2_with fail
      go_ret
      exact ⟨Q27 (by rw [hall.out, hst.out, if_pos (.inr (.inr h3))]), rfl⟩
     ·have b3 : decide ((1048576 : Int) < (m : Int)) = false := by rw [decide_eq_false_iff_not]; omega
      go_wp2_with fail
      go_round
      case rel => exact ⟨k + 1, 10 * m + (l[k].toNat - 48), by omega, by omega, by go_num, by go_num, show _ = _ by rw [hall.out, hst.out, if_neg (by omega)]; congr 1; omega⟩
      case measure => simp [intOf]; omega
  ·go_wp2_with fail
   go_ret
   exact ⟨Q27 (by rw [hall.out, List.drop_of_length_le (by omega)]; rfl), rfl⟩
theorem Qma (pb tb c : Nat) (T : List Tok) (s : St) (w : World) (h : PR pb tb c T s w) (h1 : 1 ≤ s.lv) :
  Calls Tryz.prog 92 #[.pointer (some ⟨pb, 0, none⟩)] w (SOut pb tb c T w (mPop s) (.tuple #[])) := by
 obtain ⟨c0, c1, c2, c3, c4⟩ := h.cells
 have hf := h.frozen
 have hlv := h.level
 have hp := qh (h.setP (o := 2) (s' := mPop s) (v := .int .i64 ((s.lv : Int) - 1)) (by simp only [mPop]; rw [show ((s.lv - 1 : Nat) : Int) = (s.lv : Int) - 1 by omega]; simp) h.lt (by unfold mPop; dsimp only; omega))
 have hi0 : (0 : Int) ≤ (s.lv : Int) := by omega
 have hi1 : (s.lv : Int) ≤ 129 := by omega
 replace h := qh h
 replace hlv := qh hlv
 go_enter Tryz.func92, Tryz.ntmps92
 go_wp2_with fail
 exact bodyPost_ret (v := .tuple #[]) (by simp [results, Tryz.results92, go_sem]) rfl ⟨rfl, hp.out, Only.set _ _ _ _⟩
theorem Qpi (pb tb c : Nat) (T : List Tok) (s : St) (w : World) (h : PR pb tb c T s w) (h1 : s.lv ≤ 128) :
  Calls Tryz.prog 91 #[.pointer (some ⟨pb, 0, none⟩)] w (SOut pb tb c T w (Qo T s) (.tuple #[])) := by
 obtain ⟨c0, c1, c2, c3, c4⟩ := h.cells
 have hf := h.frozen
 have hpos := h.pos
 have hp := h.setP (o := 2) (s' := mUp s) (v := .int .i64 ((s.lv : Int) + 1)) (by simp [mUp]) h.lt (by unfold mUp; dsimp only; omega)
 have ho := Only.set pb 2 w (.int .i64 ((s.lv : Int) + 1))
 have hF := qh (Qdl pb tb c T _ _ 12 (by decide) hp)
 have hi0 : (0 : Int) ≤ (s.lv : Int) := by omega
 have hi1 : (s.lv : Int) ≤ 128 := by omega
 have hm : Qo T s = if 128 < s.lv + 1 then Qq T 12 (mUp s) else mUp s := rfl
 replace h := qh h
 by_cases hd : 128 < s.lv + 1
 ·have hb : decide ((128 : Int) < (s.lv : Int) + 1) = true := by rw [decide_eq_true_eq]; omega
  rw [if_pos hd] at hm
  rw [hm]
  replace hp := qh hp
  replace hd := qh hd
  go_enter Tryz.func91, Tryz.ntmps91
  go_wp2_with fail
  refine (hF.out).mono ?_; rintro e w2 ⟨rfl, p2, o2⟩
  have o3 := qh (ho.trans o2)
  replace p2 := qh p2
  go_wp2_with fail
  exact bodyPost_ret (v := .tuple #[]) (by simp [results, Tryz.results91, go_sem]) rfl ⟨rfl, p2.out, o3.out⟩
 ·have hb : decide ((128 : Int) < (s.lv : Int) + 1) = false := by rw [decide_eq_false_iff_not]; omega
  rw [if_neg hd] at hm
  rw [hm]
  replace hp := qh hp
  replace hd := qh hd
  go_enter Tryz.func91, Tryz.ntmps91
  go_wp2_with fail
  exact bodyPost_ret (v := .tuple #[]) (by simp [results, Tryz.results91, go_sem]) rfl ⟨rfl, hp.out, ho⟩
section
attribute [local go_sem ↓] Go.wp_at_zero Go.wp_at_succ
theorem Qow (pb tb c : Nat) (T : List Tok) (s : St) (w : World) (h : PR pb tb c T s w) :
  Calls Tryz.prog 86 #[.pointer (some ⟨pb, 0, none⟩)] w (ROut pb tb c T w (Qd T s).1 (Qd T s).2) := by
 have hA1 := (AtR.begin h).alloc z5 24
 have hV := qh (fun W => Qpg (tk T s.i).text W (h.txt _ h.mem))
 clear h
 have hm : Qd T s = (.mk 9 [] (mVal (tk T s.i).text) (tk T s.i).pos [], Q8 T (if (tk T s.i).kind = 1 then s else Qq T 4 s)) := rfl
 replace hm := qh hm
 generalize Qd T s = o at *
 go_enter Tryz.func86, Tryz.ntmps86
 go_wp2_with fail
 refine hA1.cTok ?_
 intro w2 hA2
 by_cases hk : (tk T s.i).kind = 1
 ·have hb : ((tk T s.i).kind != 1) = false := by rw [bne_eq_false_iff_eq]; exact hk
  have hm2 := qh (hm.out.trans (by rw [if_pos hk] : _ = (Syn.mk 9 [] (mVal (tk T s.i).text) (tk T s.i).pos [], Q8 T s)))
  replace hk := qh hk
  go_wp2_with fail
  refine hA2.cTake ?_
  intro w4 hA4
  clear hA1 hA2
  go_upto_region 4 with (fail)
  have hA5 := (hA4.alloc [.int .i64 (tk T s.i).kind, .string ⟨(tk T s.i).text.toArray⟩, .int .i64 (tk T s.i).pos] 45)
  generalize World.alloc w4 _ = w5 at hA5 ⊢
  generalize w4.heap.size = M at hA5 ⊢
  clear hA4
  have hA6 := hA5.drew
  obtain ⟨⟨⟨r0, r1, r2⟩, _⟩, _⟩ := hA6.c3
  have hsb := hA6.swap.blk
  have hAz := hA6.swap.leaf.setSyn (.int .i64 9) (.string ⟨#[]⟩) (.int .i64 (mVal (tk T s.i).text)) (.int .i64 (tk T s.i).pos) (.slice none 0 0)
  obtain ⟨⟨⟨s0, s1, s2, s3, s4⟩, _⟩, _, _⟩ := hAz.c5
  have hout := qh (hAz.out (k := 9) (tx := []) (n := mVal (tk T s.i).text) (a := (tk T s.i).pos) (List.mem_cons_self ..))
  clear hA5 hA6 hAz
  go_region_with (go_at_call 136; (with_reducible refine (hV.out _).mono ?_); rintro e w' ⟨rfl, rfl⟩)
  all_goals
   go_wp21
   exact bodyPost_ret (v := .agg #[.int .i64 9, .string ⟨#[]⟩, .int .i64 (mVal (tk T s.i).text), .int .i64 (tk T s.i).pos, .slice none 0 0]) (by simp [results, Tryz.results86, go_sem, s0, s1, s2, s3, s4]) rfl (hm2.out ▸ hout.out)
 ·have hb : ((tk T s.i).kind != 1) = true := by rw [bne_iff_ne]; exact hk
  have hm2 := qh (hm.out.trans (by rw [if_neg hk] : _ = (Syn.mk 9 [] (mVal (tk T s.i).text) (tk T s.i).pos [], Q8 T (Qq T 4 s))))
  replace hk := qh hk
  go_wp2_with fail
  refine hA2.cFail 4 (by decide) ?_
  intro w3 hA3
  go_wp2_with fail
  refine hA3.cTake ?_
  rw [Qd7]
  intro w4 hA4
  clear hA3
  clear hA1 hA2
  go_upto_region 4 with (fail)
  have hA5 := (hA4.alloc [.int .i64 (tk T s.i).kind, .string ⟨(tk T s.i).text.toArray⟩, .int .i64 (tk T s.i).pos] 45)
  generalize World.alloc w4 _ = w5 at hA5 ⊢
  generalize w4.heap.size = M at hA5 ⊢
  clear hA4
  have hA6 := hA5.drew
  obtain ⟨⟨⟨r0, r1, r2⟩, _⟩, _⟩ := hA6.c3
  have hsb := hA6.swap.blk
  have hAz := hA6.swap.leaf.setSyn (.int .i64 9) (.string ⟨#[]⟩) (.int .i64 (mVal (tk T s.i).text)) (.int .i64 (tk T s.i).pos) (.slice none 0 0)
  obtain ⟨⟨⟨s0, s1, s2, s3, s4⟩, _⟩, _, _⟩ := hAz.c5
  have hout := qh (hAz.out (k := 9) (tx := []) (n := mVal (tk T s.i).text) (a := (tk T s.i).pos) (List.mem_cons_self ..))
  clear hA5 hA6 hAz
  go_region_with (go_at_call 136; (with_reducible refine (hV.out _).mono ?_); rintro e w' ⟨rfl, rfl⟩)
  all_goals
   go_wp21
   exact bodyPost_ret (v := .agg #[.int .i64 9, .string ⟨#[]⟩, .int .i64 (mVal (tk T s.i).text), .int .i64 (tk T s.i).pos, .slice none 0 0]) (by simp [results, Tryz.results86, go_sem, s0, s1, s2, s3, s4]) rfl (hm2.out ▸ hout.out)
theorem Qtk (pb tb c : Nat) (T : List Tok) (s : St) (w : World) (wb : Nat) (ws : List (List UInt8)) (h : PR pb tb c T s w) (hw : WAt w wb ws) (hne : wb ≠ pb) (hl : ws.length ≤ 100) :
  Calls Tryz.prog 140 #[.pointer (some ⟨pb, 0, none⟩), .slice (some ⟨wb, 0, none⟩) ws.length ws.length] w (SOut pb tb c T w s (.bool (isW T ws s.i))) := by
 have hA1 := AtR.begin h
 clear h
 go_enter Tryz.func140, Tryz.ntmps140
 go_wp2_with fail
 go_loopw [5] (fun i wr => (∃ k : Nat, k ≤ ws.length ∧ i = .int .i64 k ∧ Hid (isW T ws s.i = isW T (ws.drop k) s.i)) ∧ Hid (AtR pb tb c T w [] [] norow s wr)) (fun i _ => ws.length - (intOf i).toNat)
 case atStart => exact ⟨⟨0, by omega, rfl, show _ = _ by simp⟩, hA1⟩
 case round =>
  obtain ⟨⟨k, hk, rfl, hall⟩, hA⟩ := hrel
  by_cases hlt : k < ws.length
  ·have hcell := (hw.only hA.out.only hne).2 k hlt
   have hst : Hid (isW T (ws.drop k) s.i = (isW T [ws[k]] s.i || isW T (ws.drop (k + 1)) s.i)) := show _ = _ by
    rw [List.drop_eq_getElem_cons hlt, Q3a]
   generalize ws[k] = x at *
   go_wp2_with fail
   refine hA.out.cIs x ?_ ?_
   ·intro hb w2 hA2
    go_wp2_with fail
    go_roundw
    case rel => exact ⟨⟨k + 1, by omega, by go_num, show _ = _ by rw [hall.out, hst.out, hb]; rfl⟩, hA2⟩
    case measure => simp [intOf]; omega
   ·intro hb w2 hA2
    go_wp21
    exact bodyPost_ret (v := .bool true) (by simp [results, Tryz.results140, go_sem]) rfl ⟨Q4 (by rw [hall.out, hst.out, hb]; rfl), hA2.ps, hA2.only⟩
  ·go_wp21
   exact bodyPost_ret (v := .bool false) (by simp [results, Tryz.results140, go_sem]) rfl ⟨Q4 (by rw [hall.out, List.drop_of_length_le (by omega), Q8y]), hA.out.ps, hA.out.only⟩
end
section
theorem Q6n (w : World) (p : Addr) (v : Value) : (w.setCell p v).heap.size = w.heap.size := by simp [World.setCell]
structure RdM (pb tb c : Nat) (T : List Tok) (fn : Nat) (args : Array Value) (m : MRd) : Prop where
 tame : Tame m
 call : ∀ W s t s', PR pb tb c T s W → Lv s → m s = some (t, s') → Calls Tryz.prog fn args W (ROut pb tb c T W t s')
theorem RdM.of {pb tb c : Nat} {T : List Tok} {fn : Nat} {args : Array Value} {m : MRd} (ht : Tame m) (hc : ∀ W s o, PR pb tb c T s W → Lv s → m s = some o → Calls Tryz.prog fn args W (ROut pb tb c T W o.1 o.2)) : RdM pb tb c T fn args m :=
 ⟨ht, fun W s t s' h hl hm => hc W s (t, s') h hl hm⟩
section
variable {pb tb c : Nat} {T : List Tok} {w0 W : World} {L : List Loc} {ts : List (List Syn × Value)} {rs : List Syn × Value} {s : St} {Post : Ending → World → Prop}
theorem AtR.cRd {β : Type} {fn : Nat} {args : Array Value} {m : MRd} {k : Syn × St → Option β} {o : β} (h : AtR pb tb c T w0 L ts rs s W) (hlv : Lv s) (hres : (m s).bind k = some o) (hm : RdM pb tb c T fn args m)
  (hgo : ∀ kd tx n a kids s' g m cp w', k (.mk kd tx n a kids, s') = some o → s'.lv = s.lv → Lv s' → AtR pb tb c T w0 L ((kids, .slice g m cp) :: ts) rs s' w' → Post (.returned (.agg #[.int .i64 kd, .string ⟨tx.toArray⟩, .int .i64 n, .int .i64 a, .slice g m cp])) w') :
  Calls Tryz.prog fn args W Post := by
 obtain ⟨⟨t, s'⟩, h1, h2⟩ := Option.bind_eq_some_iff.1 hres
 refine h.cRdr (hm.call W s t s' h.ps hlv h1) ?_
 intro kd tx n a kids g m' cp w' e hA
 subst e
 exact hgo kd tx n a kids s' g m' cp w' h2 (hm.tame _ _ _ h1).1 (hm.tame.lv h1 hlv) hA
theorem AtR.cRd1 {β : Type} {fn : Nat} {args : Array Value} {m : MRd} {k : Syn × St → Option β} {o : β} (h : AtR pb tb c T w0 L ts rs s W) (hlv : Lv s) (hres : (m s).bind k = some o) (ht : Tame m)
  (hm : ∀ o, m s = some o → Calls Tryz.prog fn args W (ROut pb tb c T W o.1 o.2))
  (hgo : ∀ kd tx n a kids s' g m cp w', k (.mk kd tx n a kids, s') = some o → s'.lv = s.lv → Lv s' → AtR pb tb c T w0 L ((kids, .slice g m cp) :: ts) rs s' w' → Post (.returned (.agg #[.int .i64 kd, .string ⟨tx.toArray⟩, .int .i64 n, .int .i64 a, .slice g m cp])) w') :
  Calls Tryz.prog fn args W Post := by
 obtain ⟨⟨t, s'⟩, h1, h2⟩ := Option.bind_eq_some_iff.1 hres
 refine h.cRdr (hm _ h1) ?_
 intro kd tx n a kids g m' cp w' e hA
 subst e
 exact hgo kd tx n a kids s' g m' cp w' h2 (ht _ _ _ h1).1 (ht.lv h1 hlv) hA
theorem AtR.cName (h : AtR pb tb c T w0 L ts rs s W)
  (hgo : ∀ g m cp w', AtR pb tb c T w0 L (([], .slice g m cp) :: ts) rs (Q14 Q0 T s).2 w' → Post (.returned (.agg #[.int .i64 8, .string ⟨(tk T s.i).text.toArray⟩, .int .i64 0, .int .i64 (tk T s.i).pos, .slice g m cp])) w') :
  Calls Tryz.prog 137 #[.pointer (some ⟨pb, 0, none⟩)] W Post := by
 refine h.cRdr (Qqj pb tb c T s W h.ps) ?_
 intro kd tx n a kids g m cp w' e hA
 injection e with e1 e2 e3 e4 e5
 subst e1 e2 e3 e4 e5
 exact hgo g m cp w' hA
theorem AtR.cNumber (h : AtR pb tb c T w0 L ts rs s W)
  (hgo : ∀ g m cp w', AtR pb tb c T w0 L (([], .slice g m cp) :: ts) rs (Qd T s).2 w' → Post (.returned (.agg #[.int .i64 9, .string ⟨#[]⟩, .int .i64 (mVal (tk T s.i).text), .int .i64 (tk T s.i).pos, .slice g m cp])) w') :
  Calls Tryz.prog 86 #[.pointer (some ⟨pb, 0, none⟩)] W Post := by
 refine h.cRdr (Qow pb tb c T s W h.ps) ?_
 intro kd tx n a kids g m cp w' e hA
 injection e with e1 e2 e3 e4 e5
 subst e1 e2 e3 e4 e5
 exact hgo g m cp w' hA
theorem AtR.cPush (h : AtR pb tb c T w0 L ts rs s W) (hl : s.lv ≤ 128) (hgo : ∀ w', AtR pb tb c T w0 L ts rs (Qo T s) w' → Post (.returned (.tuple #[])) w') :
  Calls Tryz.prog 91 #[.pointer (some ⟨pb, 0, none⟩)] W Post := h.cStep (Qpi pb tb c T s W h.ps hl) hgo
theorem AtR.cPop (h : AtR pb tb c T w0 L ts rs s W) (hl : 1 ≤ s.lv) (hgo : ∀ w', AtR pb tb c T w0 L ts rs (mPop s) w' → Post (.returned (.tuple #[])) w') :
  Calls Tryz.prog 92 #[.pointer (some ⟨pb, 0, none⟩)] W Post := h.cStep (Qma pb tb c T s W h.ps hl) hgo
theorem AtR.cAmongW {wb n : Nat} (ws : List (List UInt8)) (h : AtR pb tb c T w0 L ts rs s W) (hw : WAt W wb ws ∧ wb ≠ pb) (hl : ws.length ≤ 100) (hn : n = ws.length)
  (h0 : isW T ws s.i = false → ∀ w', AtR pb tb c T w0 L ts rs s w' → Post (.returned (.bool false)) w')
  (h1 : isW T ws s.i = true → ∀ w', AtR pb tb c T w0 L ts rs s w' → Post (.returned (.bool true)) w') :
  Calls Tryz.prog 140 #[.pointer (some ⟨pb, 0, none⟩), .slice (some ⟨wb, 0, none⟩) n n] W Post := by
 subst hn
 exact h.cStep (Qtk pb tb c T s W wb ws h.ps hw.1 hw.2 hl) (fun w' hw => by
  cases hb : isW T ws s.i
  ·exact h0 hb w' hw
  ·exact h1 hb w' hw)
theorem AtR.wat {wb : Nat} {ws : List (List UInt8)} {ty : TypeId} (h : AtR pb tb c T w0 L ts rs s W) (hx : (wb, ws.map (fun l => Value.string ⟨l.toArray⟩), ty) ∈ L) : WAt W wb ws ∧ wb ≠ pb := by
 refine ⟨⟨h.lt hx, fun j hj => ?_⟩, h.ne_pb hx⟩
 rw [World.cell?, h.loc _ hx]
 simp [hj]
theorem AtR.cAmong {va : Array Value} {n B : Nat} (h : AtR pb tb c T w0 L ts rs s W) (ws : List (List UInt8)) (hl : ws.length ≤ 100) (hva : va = (ws.map fun l => Value.string ⟨l.toArray⟩).toArray) (hn : n = ws.length) (hbk : B = W.heap.size)
  (h0 : isW T ws s.i = false → ∀ w', AtR pb tb c T w0 L ts rs s w' → Post (.returned (.bool false)) w')
  (h1 : isW T ws s.i = true → ∀ w', AtR pb tb c T w0 L ts rs s w' → Post (.returned (.bool true)) w') :
  Calls Tryz.prog 140 #[.pointer (some ⟨pb, 0, none⟩), .slice (some ⟨B, 0, none⟩) n n] (W.alloc (.cells va 9)) Post := by
 have h' := h.junk (.cells va 9)
 subst hn
 subst hbk
 refine h'.cAmongW ws ⟨⟨by simp, fun j hj => ?_⟩, by have := h.ps.pos; omega⟩ hl rfl h0 h1
 rw [World.cell?, heap_alloc_new]
 subst hva
 simp [hj]
end
section
variable {α : Type} {a b c d e : α} {l : List α}
theorem mem0 : a ∈ a :: l := List.mem_cons_self ..
theorem mem1 : b ∈ a :: b :: l := List.mem_cons_of_mem _ mem0
theorem mem2 : c ∈ a :: b :: c :: l := List.mem_cons_of_mem _ mem1
theorem mem3 : d ∈ a :: b :: c :: d :: l := List.mem_cons_of_mem _ mem2
end
theorem AtR.one {pb tb c : Nat} {T : List Tok} {w0 W : World} {L : List Loc} {ts : List (List Syn × Value)} {rs : List Syn × Value} {s : St} {x : Loc} (h : AtR pb tb c T w0 L ts rs s W) (hx : x ∈ L) : AtR pb tb c T w0 [x] ts rs s W :=
 h.less (fun y hy => by rw [List.mem_singleton.1 hy]; exact hx) (List.nodup_cons.2 ⟨List.not_mem_nil, List.nodup_nil⟩)
end
end Go.Proofs.YtplbfmcgddnkeaaGreatDoor
