/- What is proved: what the small functions answer: right (both programs'), isNaN, Compare, and the closure of find. -/
import Derived.Test.YtofdkincbhahfaaBase
import Derived.Deep.CutBlock
set_option linter.unusedVariables false
set_option linter.unusedSimpArgs false
namespace Go.Proofs.Ytofdkincbhahfaa
open Go.RowKit
attribute [local go_sem] Seen.val

set_option maxHeartbeats 400000 in
theorem right_any (w : World) (c s : Int) : Calls Try.prog 18 #[.int .i64 c, .int .i64 s] w fun e w' => e = .returned (.bool (rightB c s)) ∧ w' = w := by
  by_cases h1 : 1 ≤ c <;> by_cases h2 : c ≤ 64 <;> by_cases h3 : 1 ≤ s
  all_goals
    go_enter Try.func18, Try.ntmps18
    go_wp2
    go_ret
    exact ⟨ret_bool (by simp [rightB, *]), rfl⟩
set_option maxHeartbeats 400000 in
theorem rRight_any (w : World) (c s : Int) : Calls Try.prog 21 #[.int .i64 c, .int .i64 s] w fun e w' => e = .returned (.bool (rightB c s)) ∧ w' = w := by
  by_cases h1 : 1 ≤ c <;> by_cases h2 : c ≤ 64 <;> by_cases h3 : 1 ≤ s
  all_goals
    go_enter Try.func21, Try.ntmps21
    go_wp2
    go_ret
    exact ⟨ret_bool (by simp [rightB, *]), rfl⟩
theorem isNaN_any (w : World) (c : Int) : Calls Try.prog 32 #[.int .i64 c] w fun e w' => e = .returned (.bool false) ∧ w' = w := by
  go_enter Try.func32, Try.ntmps32
  go_wp2
  go_ret
  exact ⟨rfl, rfl⟩
def cmpI (a b : Int) : Int := if a < b then -1 else if b < a then 1 else 0
set_option maxHeartbeats 400000 in
theorem compare_any (w : World) (a b : Int) : Calls Try.prog 28 #[.int .i64 a, .int .i64 b] w fun e w' => e = .returned (.int .i64 (cmpI a b)) ∧ w' = w := by
  by_cases h1 : a < b <;> by_cases h2 : b < a
  all_goals
    go_enter Try.func28, Try.ntmps28
    go_wp2_with (first
      | (go_at_call 32
         refine (isNaN_any _ _).mono ?_
         rintro e w1 ⟨rfl, hw1⟩
         obtain rfl : w = w1 := hw1.symm))
    go_ret
    exact ⟨ret_int (by unfold cmpI; (repeat' split) <;> omega), rfl⟩
set_option maxHeartbeats 400000 in
theorem cmpC_any (w : World) (s : Seen) (b : Int) : Calls Try.prog 27 #[s.val, .int .i64 b] w fun e w' => e = .returned (.int .i64 (cmpI s.client b)) ∧ Below w.heap.size w w' := by
  have hX := heap_alloc_new w s.blk
  go_enter Try.func27, Try.ntmps27
  go_upto_region 1 with fail
  obtain ⟨c0, c1, c2, c3, c4, clt⟩ := seen_blk hX
  go_wp2_with (go_at_call 28
               refine (compare_any _ _ _).mono ?_
               rintro e w1 ⟨rfl, rfl⟩)
  go_ret
  exact ⟨rfl, al _⟩
end Go.Proofs.Ytofdkincbhahfaa
