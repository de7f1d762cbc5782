/- Joined: Cab. -/
import Derived.Test.YtplbfmcgddnkeaaGreatDoorS10
set_option linter.unusedVariables false
set_option linter.unusedSimpArgs false
section
set_option maxHeartbeats 20000000
set_option maxRecDepth 100000
namespace Go.Proofs.YtplbfmcgddnkeaaGreatDoor
open Go.RowKit
theorem pcall2_0 (tx : List UInt8) (n a : Int)  (q : Option Addr) (d : Nat) (w : World) :
    Calls Tryz.prog 105 #[.int .i64 (2 : Nat), (Value.agg #[.int .i64 10, .string ⟨List.toArray tx⟩, .int .i64 n, .int .i64 a, .slice q 0 d])] w (VPost w (call2 (.mk 10 tx n a ([] : List Syn)))) := by
  obtain ⟨res, hres⟩ : ∃ r, Hid (r = call2 (.mk 10 tx n a ([] : List Syn))) := ⟨_, Lib.hid rfl⟩
  rw [← hres.out]
  replace hres := Lib.hid (hres.out.trans (show _ = (decide (tx = kTrue)) from by
    unfold call2
    simp only [Syn.text, Syn.kids, List.length_nil]
    by_cases h : tx = kTrue <;> simp [h]))
  have hB := boxed2_below w (2 : Nat) 10 tx n a q 0 d
  have hX := boxed2_kind w (2 : Nat) 10 tx n a q 0 d
  have hC := boxed2_five w (2 : Nat) 10 tx n a q 0 d
  unfold boxed2 boxed at hB hX hC
  go_enter Tryz.func105, Tryz.ntmps105
  go_upto_region 2 with (fail)
  generalize World.alloc (World.alloc w _) _ = w1 at hB hX hC ⊢
  generalize w.heap.size + 1 = B at hC ⊢
  obtain ⟨c0, c1, c2, c3, c4⟩ := hC
  replace hB := Lib.hid hB
  go_wp2_with fail
  all_goals
    go_ret
    refine ⟨ret_b ?_, hB.out⟩
    rw [hres.out]
    clear hX c0 c1 c2 c3 c4
    first
      | rfl
      | (simp [beqI]; done)
      | (simp [*, beqI]; done)
      | simp_all [beqI]
theorem pcall2_3 (tx : List UInt8) (n a : Int) (x y z : Syn) (l : List Syn) (q : Option Addr) (d : Nat) (w : World) :
    Calls Tryz.prog 105 #[.int .i64 (2 : Nat), (Value.agg #[.int .i64 10, .string ⟨List.toArray tx⟩, .int .i64 n, .int .i64 a, .slice q (l.length+3) d])] w (VPost w (call2 (.mk 10 tx n a (x :: y :: z :: l)))) := by
  obtain ⟨res, hres⟩ : ∃ r, Hid (r = call2 (.mk 10 tx n a (x :: y :: z :: l))) := ⟨_, Lib.hid rfl⟩
  rw [← hres.out]
  replace hres := Lib.hid (hres.out.trans (show _ = false from by
    unfold call2
    simp [Syn.text, Syn.kids]))
  have hm : 2 < ((l.length + 3 : Nat) : Int) := by omega
  generalize l.length + 3 = m at *
  have hm0 : ¬ (m : Int) = 0 := by omega
  have hm1 : ¬ (m : Int) = 1 := by omega
  have hm2 : ¬ (m : Int) = 2 := by omega
  have hB := boxed2_below w (2 : Nat) 10 tx n a q m d
  have hX := boxed2_kind w (2 : Nat) 10 tx n a q m d
  have hC := boxed2_five w (2 : Nat) 10 tx n a q m d
  unfold boxed2 boxed at hB hX hC
  go_enter Tryz.func105, Tryz.ntmps105
  go_upto_region 2 with (fail)
  generalize World.alloc (World.alloc w _) _ = w1 at hB hX hC ⊢
  generalize w.heap.size + 1 = B at hC ⊢
  obtain ⟨c0, c1, c2, c3, c4⟩ := hC
  replace hB := Lib.hid hB
  go_wp2_with fail
  all_goals
    go_ret
    refine ⟨ret_b ?_, hB.out⟩
    first
      | exact hres.out.symm
      | (rw [hres.out]; simp [beqI]; omega)
      | (rw [hres.out]; simp [beqI, hm0]; done)
end Go.Proofs.YtplbfmcgddnkeaaGreatDoor
end
