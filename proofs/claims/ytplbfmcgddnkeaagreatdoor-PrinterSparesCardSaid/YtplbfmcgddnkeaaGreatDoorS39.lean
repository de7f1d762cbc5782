/- Joined: RpN. -/
import Derived.Test.YtplbfmcgddnkeaaGreatDoorS38
set_option linter.unusedVariables false
set_option linter.unusedSimpArgs false
section
set_option maxHeartbeats 1000000
set_option maxRecDepth 100000
namespace Go.Proofs.YtplbfmcgddnkeaaGreatDoor
open Go.RowKit
attribute [local go_sem ↓] Go.wp_at_zero Go.wp_at_succ
def LOut (pb tb c : Nat) (T : List Tok) (w : World) (l : List Syn) (s' : St) (r : Ending) (w' : World) : Prop := Only pb w w' ∧ (∃ v, r = .returned v ∧ KidsAt (Fr w.heap.size) w' l v) ∧ PR pb tb c T s' w'
theorem AtR.lout {pb tb c : Nat} {T : List Tok} {w0 W : World} {L : List Loc} {ts : List (List Syn × Value)} {rs : List Syn × Value} {s : St} {l : List Syn} {v : Value} (h : AtR pb tb c T w0 L ts rs s W) (hm : (l, v) ∈ ts) : LOut pb tb c T w0 l s (.returned v) W :=
  ⟨h.only, ⟨v, rfl, (h.tr _ hm).keep (Keep.refl _ _) fun _ h => h.1⟩, h.ps⟩
theorem rargs_input (pb tb c : Nat) (T : List Tok) (fo : MRd) (s : St) (w : World) (o : List Syn × St) (h : PR pb tb c T s w) (hlv : Lv s) (hfor : RdM pb tb c T 47 #[.pointer (some ⟨pb, 0, none⟩)] fo)
    (hres : mArgs T fo [105, 110, 112, 117, 116] s = some o) : Calls Tryz.prog 196 #[.pointer (some ⟨pb, 0, none⟩), .string ⟨List.toArray ([105, 110, 112, 117, 116])⟩] w (LOut pb tb c T w o.1 o.2) := by
  have hA := AtR.begin h
  unfold mArgs at hres
  rw [if_pos (by decide)] at hres
  replace hres := Lib.hid hres
  replace hfor := Lib.hid hfor
  clear h
  go_enter Tryz.func196, Tryz.ntmps196
  go_wp2_with fail
  refine hA.cNumber ?_
  clear hA
  intro g1 m1 cp1 W hA
  go_upto_region 6 with (fail)
  replace hA := hA.alloc [.int .i64 9, .string ⟨List.toArray ([])⟩, .int .i64 (mVal (tk T s.i).text), .int .i64 (tk T s.i).pos, .slice g1 m1 cp1] 24
  generalize W.heap.size = P at hA ⊢
  generalize World.alloc W _ = W at hA ⊢
  go_wp2_with fail
  refine hA.cNeed [44] ?_
  clear hA
  intro W hA
  go_upto_region 7 with (fail)
  have hA7 := hA.drew
  clear hA
  obtain ⟨⟨⟨l0, l1, l2, l3, l4⟩, hfl⟩, ll, -⟩ := hA7.c5
  go_region_with (refine hA7.cNumber ?_; intro g2 m2 cp2 W8 hA8; obtain ⟨⟨⟨l0, l1, l2, l3, l4⟩, hfl⟩, ll, -⟩ := hA8.c5)
  all_goals
    have hA9 := hA8.slice2 (k := 9) (tx := []) (n := (mVal (tk T s.i).text)) (a := (tk T s.i).pos) (k' := 9) (tx' := []) (n' := (mVal (tk T (mNeed T [44] (mNumber T s).2).i).text)) (a' := (tk T (mNeed T [44] (mNumber T s).2).i).pos) mem1 mem0
    have hres3 := Lib.hid (Option.some.inj hres.out)
    have hout := Lib.hid (hA9.lout mem0)
    clear hA8 hA9 hA7
    go_wp21
    exact bodyPost_ret (v := .slice (some ⟨W8.heap.size, 0, none⟩) 2 2) (by simp [results, Tryz.results196, go_sem]) rfl (hres3.out ▸ hout.out)
theorem rargs_heard (pb tb c : Nat) (T : List Tok) (fo : MRd) (s : St) (w : World) (o : List Syn × St) (h : PR pb tb c T s w) (hlv : Lv s) (hfor : RdM pb tb c T 47 #[.pointer (some ⟨pb, 0, none⟩)] fo)
    (hres : mArgs T fo [104, 101, 97, 114, 100] s = some o) : Calls Tryz.prog 196 #[.pointer (some ⟨pb, 0, none⟩), .string ⟨List.toArray ([104, 101, 97, 114, 100])⟩] w (LOut pb tb c T w o.1 o.2) := by
  have hA := AtR.begin h
  unfold mArgs at hres
  rw [if_pos (by decide)] at hres
  replace hres := Lib.hid hres
  replace hfor := Lib.hid hfor
  clear h
  go_enter Tryz.func196, Tryz.ntmps196
  go_wp2_with fail
  refine hA.cNumber ?_
  clear hA
  intro g1 m1 cp1 W hA
  go_upto_region 6 with (fail)
  replace hA := hA.alloc [.int .i64 9, .string ⟨List.toArray ([])⟩, .int .i64 (mVal (tk T s.i).text), .int .i64 (tk T s.i).pos, .slice g1 m1 cp1] 24
  generalize W.heap.size = P at hA ⊢
  generalize World.alloc W _ = W at hA ⊢
  go_wp2_with fail
  refine hA.cNeed [44] ?_
  clear hA
  intro W hA
  go_upto_region 7 with (fail)
  have hA7 := hA.drew
  clear hA
  obtain ⟨⟨⟨l0, l1, l2, l3, l4⟩, hfl⟩, ll, -⟩ := hA7.c5
  go_region_with (refine hA7.cNumber ?_; intro g2 m2 cp2 W8 hA8; obtain ⟨⟨⟨l0, l1, l2, l3, l4⟩, hfl⟩, ll, -⟩ := hA8.c5)
  all_goals
    have hA9 := hA8.slice2 (k := 9) (tx := []) (n := (mVal (tk T s.i).text)) (a := (tk T s.i).pos) (k' := 9) (tx' := []) (n' := (mVal (tk T (mNeed T [44] (mNumber T s).2).i).text)) (a' := (tk T (mNeed T [44] (mNumber T s).2).i).pos) mem1 mem0
    have hres3 := Lib.hid (Option.some.inj hres.out)
    have hout := Lib.hid (hA9.lout mem0)
    clear hA8 hA9 hA7
    go_wp21
    exact bodyPost_ret (v := .slice (some ⟨W8.heap.size, 0, none⟩) 2 2) (by simp [results, Tryz.results196, go_sem]) rfl (hres3.out ▸ hout.out)
theorem rargs_decided (pb tb c : Nat) (T : List Tok) (fo : MRd) (s : St) (w : World) (o : List Syn × St) (h : PR pb tb c T s w) (hlv : Lv s) (hfor : RdM pb tb c T 47 #[.pointer (some ⟨pb, 0, none⟩)] fo)
    (hres : mArgs T fo [100, 101, 99, 105, 100, 101, 100] s = some o) : Calls Tryz.prog 196 #[.pointer (some ⟨pb, 0, none⟩), .string ⟨List.toArray ([100, 101, 99, 105, 100, 101, 100])⟩] w (LOut pb tb c T w o.1 o.2) := by
  have hA := AtR.begin h
  unfold mArgs at hres
  rw [if_pos (by decide)] at hres
  replace hres := Lib.hid hres
  replace hfor := Lib.hid hfor
  clear h
  go_enter Tryz.func196, Tryz.ntmps196
  go_wp2_with fail
  refine hA.cNumber ?_
  clear hA
  intro g1 m1 cp1 W hA
  go_upto_region 6 with (fail)
  replace hA := hA.alloc [.int .i64 9, .string ⟨List.toArray ([])⟩, .int .i64 (mVal (tk T s.i).text), .int .i64 (tk T s.i).pos, .slice g1 m1 cp1] 24
  generalize W.heap.size = P at hA ⊢
  generalize World.alloc W _ = W at hA ⊢
  go_wp2_with fail
  refine hA.cNeed [44] ?_
  clear hA
  intro W hA
  go_upto_region 7 with (fail)
  have hA7 := hA.drew
  clear hA
  obtain ⟨⟨⟨l0, l1, l2, l3, l4⟩, hfl⟩, ll, -⟩ := hA7.c5
  go_region_with (refine hA7.cNumber ?_; intro g2 m2 cp2 W8 hA8; obtain ⟨⟨⟨l0, l1, l2, l3, l4⟩, hfl⟩, ll, -⟩ := hA8.c5)
  all_goals
    have hA9 := hA8.slice2 (k := 9) (tx := []) (n := (mVal (tk T s.i).text)) (a := (tk T s.i).pos) (k' := 9) (tx' := []) (n' := (mVal (tk T (mNeed T [44] (mNumber T s).2).i).text)) (a' := (tk T (mNeed T [44] (mNumber T s).2).i).pos) mem1 mem0
    have hres3 := Lib.hid (Option.some.inj hres.out)
    have hout := Lib.hid (hA9.lout mem0)
    clear hA8 hA9 hA7
    go_wp21
    exact bodyPost_ret (v := .slice (some ⟨W8.heap.size, 0, none⟩) 2 2) (by simp [results, Tryz.results196, go_sem]) rfl (hres3.out ▸ hout.out)
theorem rargs_given (pb tb c : Nat) (T : List Tok) (fo : MRd) (s : St) (w : World) (o : List Syn × St) (h : PR pb tb c T s w) (hlv : Lv s) (hfor : RdM pb tb c T 47 #[.pointer (some ⟨pb, 0, none⟩)] fo)
    (hres : mArgs T fo [103, 105, 118, 101, 110] s = some o) : Calls Tryz.prog 196 #[.pointer (some ⟨pb, 0, none⟩), .string ⟨List.toArray ([103, 105, 118, 101, 110])⟩] w (LOut pb tb c T w o.1 o.2) := by
  have hA := AtR.begin h
  unfold mArgs at hres
  rw [if_neg (by decide), if_pos (by decide)] at hres
  replace hres := Lib.hid hres
  replace hfor := Lib.hid hfor
  clear h
  go_enter Tryz.func196, Tryz.ntmps196
  go_wp2_with fail
  refine hA.cNumber ?_
  clear hA
  intro g1 m1 cp1 W hA
  have hres3 := Lib.hid (Option.some.inj hres.out)
  replace hA := hA.slice1 (k := 9) (tx := []) (n := (mVal (tk T s.i).text)) (a := (tk T s.i).pos) mem0
  have hout := Lib.hid (hA.lout mem0)
  clear hA
  go_wp21
  exact bodyPost_ret (v := .slice (some ⟨W.heap.size, 0, none⟩) 1 1) (by simp [results, Tryz.results196, go_sem]) rfl (hres3.out ▸ hout.out)
theorem rargs_faulty (pb tb c : Nat) (T : List Tok) (fo : MRd) (s : St) (w : World) (o : List Syn × St) (h : PR pb tb c T s w) (hlv : Lv s) (hfor : RdM pb tb c T 47 #[.pointer (some ⟨pb, 0, none⟩)] fo)
    (hres : mArgs T fo [102, 97, 117, 108, 116, 121] s = some o) : Calls Tryz.prog 196 #[.pointer (some ⟨pb, 0, none⟩), .string ⟨List.toArray ([102, 97, 117, 108, 116, 121])⟩] w (LOut pb tb c T w o.1 o.2) := by
  have hA := AtR.begin h
  unfold mArgs at hres
  rw [if_neg (by decide), if_pos (by decide)] at hres
  replace hres := Lib.hid hres
  replace hfor := Lib.hid hfor
  clear h
  go_enter Tryz.func196, Tryz.ntmps196
  go_wp2_with fail
  refine hA.cNumber ?_
  clear hA
  intro g1 m1 cp1 W hA
  have hres3 := Lib.hid (Option.some.inj hres.out)
  replace hA := hA.slice1 (k := 9) (tx := []) (n := (mVal (tk T s.i).text)) (a := (tk T s.i).pos) mem0
  have hout := Lib.hid (hA.lout mem0)
  clear hA
  go_wp21
  exact bodyPost_ret (v := .slice (some ⟨W.heap.size, 0, none⟩) 1 1) (by simp [results, Tryz.results196, go_sem]) rfl (hres3.out ▸ hout.out)
theorem rargs_at (pb tb c : Nat) (T : List Tok) (fo : MRd) (s : St) (w : World) (o : List Syn × St) (h : PR pb tb c T s w) (hlv : Lv s) (hfor : RdM pb tb c T 47 #[.pointer (some ⟨pb, 0, none⟩)] fo)
    (hres : mArgs T fo [97, 116] s = some o) : Calls Tryz.prog 196 #[.pointer (some ⟨pb, 0, none⟩), .string ⟨List.toArray ([97, 116])⟩] w (LOut pb tb c T w o.1 o.2) := by
  have hA := AtR.begin h
  unfold mArgs at hres
  rw [if_neg (by decide), if_pos (by decide)] at hres
  replace hres := Lib.hid hres
  replace hfor := Lib.hid hfor
  clear h
  go_enter Tryz.func196, Tryz.ntmps196
  go_wp2_with fail
  refine hA.cNumber ?_
  clear hA
  intro g1 m1 cp1 W hA
  have hres3 := Lib.hid (Option.some.inj hres.out)
  replace hA := hA.slice1 (k := 9) (tx := []) (n := (mVal (tk T s.i).text)) (a := (tk T s.i).pos) mem0
  have hout := Lib.hid (hA.lout mem0)
  clear hA
  go_wp21
  exact bodyPost_ret (v := .slice (some ⟨W.heap.size, 0, none⟩) 1 1) (by simp [results, Tryz.results196, go_sem]) rfl (hres3.out ▸ hout.out)
theorem rargs_K (pb tb c : Nat) (T : List Tok) (fo : MRd) (s : St) (w : World) (o : List Syn × St) (h : PR pb tb c T s w) (hlv : Lv s) (hfor : RdM pb tb c T 47 #[.pointer (some ⟨pb, 0, none⟩)] fo)
    (hres : mArgs T fo [75] s = some o) : Calls Tryz.prog 196 #[.pointer (some ⟨pb, 0, none⟩), .string ⟨List.toArray ([75])⟩] w (LOut pb tb c T w o.1 o.2) := by
  have hA := AtR.begin h
  unfold mArgs at hres
  rw [if_neg (by decide), if_neg (by decide), if_pos (by decide)] at hres
  replace hres := Lib.hid hres
  replace hfor := Lib.hid hfor
  clear h
  go_enter Tryz.func196, Tryz.ntmps196
  go_wp2_with fail
  refine hA.cNumber ?_
  clear hA
  intro g1 m1 cp1 W hA
  go_upto_region 14 with (fail)
  replace hA := hA.alloc [.int .i64 9, .string ⟨List.toArray ([])⟩, .int .i64 (mVal (tk T s.i).text), .int .i64 (tk T s.i).pos, .slice g1 m1 cp1] 24
  generalize W.heap.size = P at hA ⊢
  generalize World.alloc W _ = W at hA ⊢
  go_wp2_with fail
  refine hA.cNeed [44] ?_
  clear hA
  intro W hA
  go_upto_region 15 with (fail)
  have hA7 := hA.drew
  clear hA
  obtain ⟨⟨⟨l0, l1, l2, l3, l4⟩, hfl⟩, ll, -⟩ := hA7.c5
  go_region_with (refine hA7.cRd (hlv.number.need) hres.out hfor.out ?_; intro k8 tx8 n8 a8 kids8 s8 g8 m8 cp8 W8 hres8 hlv8 hLv8 hA8; obtain ⟨⟨⟨l0, l1, l2, l3, l4⟩, hfl⟩, ll, -⟩ := hA8.c5)
  all_goals
    have hA9 := hA8.slice2 (k := 9) (tx := []) (n := (mVal (tk T s.i).text)) (a := (tk T s.i).pos) (k' := k8) (tx' := tx8) (n' := n8) (a' := a8) mem1 mem0
    have hres3 := Lib.hid (Option.some.inj hres8)
    have hout := Lib.hid (hA9.lout mem0)
    clear hA8 hA9 hA7
    go_wp21
    exact bodyPost_ret (v := .slice (some ⟨W8.heap.size, 0, none⟩) 2 2) (by simp [results, Tryz.results196, go_sem]) rfl (hres3.out ▸ hout.out)
theorem rargs_E (pb tb c : Nat) (T : List Tok) (fo : MRd) (s : St) (w : World) (o : List Syn × St) (h : PR pb tb c T s w) (hlv : Lv s) (hfor : RdM pb tb c T 47 #[.pointer (some ⟨pb, 0, none⟩)] fo)
    (hres : mArgs T fo [69] s = some o) : Calls Tryz.prog 196 #[.pointer (some ⟨pb, 0, none⟩), .string ⟨List.toArray ([69])⟩] w (LOut pb tb c T w o.1 o.2) := by
  have hA := AtR.begin h
  unfold mArgs at hres
  rw [if_neg (by decide), if_neg (by decide), if_neg (by decide), if_pos (by decide)] at hres
  replace hres := Lib.hid hres
  replace hfor := Lib.hid hfor
  clear h
  go_enter Tryz.func196, Tryz.ntmps196
  go_wp2_with fail
  refine hA.cRd1 hlv hres.out set_tame (fun o ho => rset_any pb tb c T s _ o hA.ps ho) ?_
  clear hA
  intro kd1 tx1 n1 a1 kids1 s1 g1 m1 cp1 W hres1 hlv1 hLv1 hA
  replace hres1 := Lib.hid hres1
  go_upto_region 20 with (fail)
  replace hA := hA.alloc [.int .i64 kd1, .string ⟨List.toArray (tx1)⟩, .int .i64 n1, .int .i64 a1, .slice g1 m1 cp1] 24
  generalize W.heap.size = P at hA ⊢
  generalize World.alloc W _ = W at hA ⊢
  go_wp2_with fail
  refine hA.cNeed [44] ?_
  clear hA
  intro W hA
  go_upto_region 21 with (fail)
  have hA7 := hA.drew
  clear hA
  obtain ⟨⟨⟨l0, l1, l2, l3, l4⟩, hfl⟩, ll, -⟩ := hA7.c5
  go_region_with (refine hA7.cRd hLv1.need hres1.out hfor.out ?_; intro k8 tx8 n8 a8 kids8 s8 g8 m8 cp8 W8 hres8 hlv8 hLv8 hA8; obtain ⟨⟨⟨l0, l1, l2, l3, l4⟩, hfl⟩, ll, -⟩ := hA8.c5)
  all_goals
    have hA9 := hA8.slice2 (k := kd1) (tx := tx1) (n := n1) (a := a1) (k' := k8) (tx' := tx8) (n' := n8) (a' := a8) mem1 mem0
    have hres3 := Lib.hid (Option.some.inj hres8)
    have hout := Lib.hid (hA9.lout mem0)
    clear hA8 hA9 hA7
    go_wp21
    exact bodyPost_ret (v := .slice (some ⟨W8.heap.size, 0, none⟩) 2 2) (by simp [results, Tryz.results196, go_sem]) rfl (hres3.out ▸ hout.out)
theorem rargs_D (pb tb c : Nat) (T : List Tok) (fo : MRd) (s : St) (w : World) (o : List Syn × St) (h : PR pb tb c T s w) (hlv : Lv s) (hfor : RdM pb tb c T 47 #[.pointer (some ⟨pb, 0, none⟩)] fo)
    (hres : mArgs T fo [68] s = some o) : Calls Tryz.prog 196 #[.pointer (some ⟨pb, 0, none⟩), .string ⟨List.toArray ([68])⟩] w (LOut pb tb c T w o.1 o.2) := by
  have hA := AtR.begin h
  unfold mArgs at hres
  rw [if_neg (by decide), if_neg (by decide), if_neg (by decide), if_pos (by decide)] at hres
  replace hres := Lib.hid hres
  replace hfor := Lib.hid hfor
  clear h
  go_enter Tryz.func196, Tryz.ntmps196
  go_wp2_with fail
  refine hA.cRd1 hlv hres.out set_tame (fun o ho => rset_any pb tb c T s _ o hA.ps ho) ?_
  clear hA
  intro kd1 tx1 n1 a1 kids1 s1 g1 m1 cp1 W hres1 hlv1 hLv1 hA
  replace hres1 := Lib.hid hres1
  go_upto_region 20 with (fail)
  replace hA := hA.alloc [.int .i64 kd1, .string ⟨List.toArray (tx1)⟩, .int .i64 n1, .int .i64 a1, .slice g1 m1 cp1] 24
  generalize W.heap.size = P at hA ⊢
  generalize World.alloc W _ = W at hA ⊢
  go_wp2_with fail
  refine hA.cNeed [44] ?_
  clear hA
  intro W hA
  go_upto_region 21 with (fail)
  have hA7 := hA.drew
  clear hA
  obtain ⟨⟨⟨l0, l1, l2, l3, l4⟩, hfl⟩, ll, -⟩ := hA7.c5
  go_region_with (refine hA7.cRd hLv1.need hres1.out hfor.out ?_; intro k8 tx8 n8 a8 kids8 s8 g8 m8 cp8 W8 hres8 hlv8 hLv8 hA8; obtain ⟨⟨⟨l0, l1, l2, l3, l4⟩, hfl⟩, ll, -⟩ := hA8.c5)
  all_goals
    have hA9 := hA8.slice2 (k := kd1) (tx := tx1) (n := n1) (a := a1) (k' := k8) (tx' := tx8) (n' := n8) (a' := a8) mem1 mem0
    have hres3 := Lib.hid (Option.some.inj hres8)
    have hout := Lib.hid (hA9.lout mem0)
    clear hA8 hA9 hA7
    go_wp21
    exact bodyPost_ret (v := .slice (some ⟨W8.heap.size, 0, none⟩) 2 2) (by simp [results, Tryz.results196, go_sem]) rfl (hres3.out ▸ hout.out)
theorem rargs_C (pb tb c : Nat) (T : List Tok) (fo : MRd) (s : St) (w : World) (o : List Syn × St) (h : PR pb tb c T s w) (hlv : Lv s) (hfor : RdM pb tb c T 47 #[.pointer (some ⟨pb, 0, none⟩)] fo)
    (hres : mArgs T fo [67] s = some o) : Calls Tryz.prog 196 #[.pointer (some ⟨pb, 0, none⟩), .string ⟨List.toArray ([67])⟩] w (LOut pb tb c T w o.1 o.2) := by
  have hA := AtR.begin h
  unfold mArgs at hres
  rw [if_neg (by decide), if_neg (by decide), if_neg (by decide), if_pos (by decide)] at hres
  replace hres := Lib.hid hres
  replace hfor := Lib.hid hfor
  clear h
  go_enter Tryz.func196, Tryz.ntmps196
  go_wp2_with fail
  refine hA.cRd1 hlv hres.out set_tame (fun o ho => rset_any pb tb c T s _ o hA.ps ho) ?_
  clear hA
  intro kd1 tx1 n1 a1 kids1 s1 g1 m1 cp1 W hres1 hlv1 hLv1 hA
  replace hres1 := Lib.hid hres1
  go_upto_region 20 with (fail)
  replace hA := hA.alloc [.int .i64 kd1, .string ⟨List.toArray (tx1)⟩, .int .i64 n1, .int .i64 a1, .slice g1 m1 cp1] 24
  generalize W.heap.size = P at hA ⊢
  generalize World.alloc W _ = W at hA ⊢
  go_wp2_with fail
  refine hA.cNeed [44] ?_
  clear hA
  intro W hA
  go_upto_region 21 with (fail)
  have hA7 := hA.drew
  clear hA
  obtain ⟨⟨⟨l0, l1, l2, l3, l4⟩, hfl⟩, ll, -⟩ := hA7.c5
  go_region_with (refine hA7.cRd hLv1.need hres1.out hfor.out ?_; intro k8 tx8 n8 a8 kids8 s8 g8 m8 cp8 W8 hres8 hlv8 hLv8 hA8; obtain ⟨⟨⟨l0, l1, l2, l3, l4⟩, hfl⟩, ll, -⟩ := hA8.c5)
  all_goals
    have hA9 := hA8.slice2 (k := kd1) (tx := tx1) (n := n1) (a := a1) (k' := k8) (tx' := tx8) (n' := n8) (a' := a8) mem1 mem0
    have hres3 := Lib.hid (Option.some.inj hres8)
    have hout := Lib.hid (hA9.lout mem0)
    clear hA8 hA9 hA7
    go_wp21
    exact bodyPost_ret (v := .slice (some ⟨W8.heap.size, 0, none⟩) 2 2) (by simp [results, Tryz.results196, go_sem]) rfl (hres3.out ▸ hout.out)
theorem rargs_rest (w0 : List UInt8) (pb tb c : Nat) (T : List Tok) (fo : MRd) (s : St) (w : World) (o : List Syn × St) (h : PR pb tb c T s w) (hlv : Lv s) (hfor : RdM pb tb c T 47 #[.pointer (some ⟨pb, 0, none⟩)] fo)
    (h0 : w0 ≠ [105, 110, 112, 117, 116]) (h1 : w0 ≠ [104, 101, 97, 114, 100]) (h2 : w0 ≠ [100, 101, 99, 105, 100, 101, 100]) (h3 : w0 ≠ [103, 105, 118, 101, 110]) (h4 : w0 ≠ [102, 97, 117, 108, 116, 121]) (h5 : w0 ≠ [97, 116]) (h6 : w0 ≠ [75]) (h7 : w0 ≠ [69]) (h8 : w0 ≠ [68]) (h9 : w0 ≠ [67])
    (hres : mArgs T fo w0 s = some o) : Calls Tryz.prog 196 #[.pointer (some ⟨pb, 0, none⟩), .string ⟨List.toArray (w0)⟩] w (LOut pb tb c T w o.1 o.2) := by
  have hA := AtR.begin h
  unfold mArgs at hres
  rw [if_neg (by simp [h0, h1, h2]), if_neg (by simp [h3, h4, h5]), if_neg (by simp [h6]), if_neg (by simp [h7, h8, h9])] at hres
  have b0 : (w0 == [105, 110, 112, 117, 116]) = false := by rw [beq_eq_false_iff_ne]; exact h0
  have b1 : (w0 == [104, 101, 97, 114, 100]) = false := by rw [beq_eq_false_iff_ne]; exact h1
  have b2 : (w0 == [100, 101, 99, 105, 100, 101, 100]) = false := by rw [beq_eq_false_iff_ne]; exact h2
  have b3 : (w0 == [103, 105, 118, 101, 110]) = false := by rw [beq_eq_false_iff_ne]; exact h3
  have b4 : (w0 == [102, 97, 117, 108, 116, 121]) = false := by rw [beq_eq_false_iff_ne]; exact h4
  have b5 : (w0 == [97, 116]) = false := by rw [beq_eq_false_iff_ne]; exact h5
  have b6 : (w0 == [75]) = false := by rw [beq_eq_false_iff_ne]; exact h6
  have b7 : (w0 == [69]) = false := by rw [beq_eq_false_iff_ne]; exact h7
  have b8 : (w0 == [68]) = false := by rw [beq_eq_false_iff_ne]; exact h8
  have b9 : (w0 == [67]) = false := by rw [beq_eq_false_iff_ne]; exact h9
  replace hres := Lib.hid hres
  replace hfor := Lib.hid hfor
  clear h
  go_enter Tryz.func196, Tryz.ntmps196
  go_wp2_with fail
  refine hA.cRd (hlv) hres.out hfor.out ?_
  clear hA
  intro kd1 tx1 n1 a1 kids1 s1 g1 m1 cp1 W hres1 hlv1 hLv1 hA
  replace hres1 := Lib.hid hres1
  have hres3 := Lib.hid (Option.some.inj hres1.out)
  replace hA := hA.slice1 (k := kd1) (tx := tx1) (n := n1) (a := a1) mem0
  have hout := Lib.hid (hA.lout mem0)
  clear hA
  go_wp21
  exact bodyPost_ret (v := .slice (some ⟨W.heap.size, 0, none⟩) 1 1) (by simp [results, Tryz.results196, go_sem]) rfl (hres3.out ▸ hout.out)
theorem rargs_any (pb tb c : Nat) (T : List Tok) (fo : MRd) (hfor : RdM pb tb c T 47 #[.pointer (some ⟨pb, 0, none⟩)] fo) (w : List UInt8) : ArgsM pb tb c T w fo := fun W s l s' h hlv hm => by
  by_cases h0 : w = [105, 110, 112, 117, 116]
  · subst h0; exact rargs_input pb tb c T fo s W (l, s') h hlv hfor hm
  by_cases h1 : w = [104, 101, 97, 114, 100]
  · subst h1; exact rargs_heard pb tb c T fo s W (l, s') h hlv hfor hm
  by_cases h2 : w = [100, 101, 99, 105, 100, 101, 100]
  · subst h2; exact rargs_decided pb tb c T fo s W (l, s') h hlv hfor hm
  by_cases h3 : w = [103, 105, 118, 101, 110]
  · subst h3; exact rargs_given pb tb c T fo s W (l, s') h hlv hfor hm
  by_cases h4 : w = [102, 97, 117, 108, 116, 121]
  · subst h4; exact rargs_faulty pb tb c T fo s W (l, s') h hlv hfor hm
  by_cases h5 : w = [97, 116]
  · subst h5; exact rargs_at pb tb c T fo s W (l, s') h hlv hfor hm
  by_cases h6 : w = [75]
  · subst h6; exact rargs_K pb tb c T fo s W (l, s') h hlv hfor hm
  by_cases h7 : w = [69]
  · subst h7; exact rargs_E pb tb c T fo s W (l, s') h hlv hfor hm
  by_cases h8 : w = [68]
  · subst h8; exact rargs_D pb tb c T fo s W (l, s') h hlv hfor hm
  by_cases h9 : w = [67]
  · subst h9; exact rargs_C pb tb c T fo s W (l, s') h hlv hfor hm
  exact rargs_rest w pb tb c T fo s W (l, s') h hlv hfor h0 h1 h2 h3 h4 h5 h6 h7 h8 h9 hm
end Go.Proofs.YtplbfmcgddnkeaaGreatDoor
end
