/- What is proved: whether a move fits its span: both programs. -/
import Derived.Test.YtimondpollbdfaaInside
set_option linter.unusedVariables false
set_option linter.unusedSimpArgs false
namespace Go.Proofs.Ytimondpollbdfaa
open Go.RowKit
attribute [local go_sem] Span.val Atl.val Plan.val

def moveOk (groups : Int) (s : Span) (p : Plan) : Bool :=
  !(decide (p.group < 1) || decide (groups < p.group) || decide (p.past < 1) || decide (groups < p.past) || p.group == p.past || p.other != 0 || !isE p.key) &&
  (if p.phase = 1 then s.gr == p.past && s.ep == p.epoch else if p.phase = 2 ∨ p.phase = 3 then s.gr == p.group && s.ep - 1 == p.epoch else if p.phase = 9 then s.gr == p.past && s.ep - 2 == p.epoch else false)

set_option maxHeartbeats 2000000 in
theorem moving_any (a : Atl) (v : Value) (s : Span) (p : Plan) (h1 : 1 ≤ s.ep) (h2 : s.ep ≤ 1099511627776) (w : World) :
    Calls Try.prog 69 #[a.val v, s.val, p.val] w fun e w' => e = .returned (.bool (moveOk a.groups s p)) ∧ Below w.heap.size w w' := by
  go_enter Try.func69, Try.ntmps69
  go_wp2
  all_goals
    go_ret
    refine ⟨ret_bool ?_, al3 _ _ _⟩
    grind [moveOk, isE]

set_option maxHeartbeats 2000000 in
theorem rMove_any (a : Atl) (v : Value) (s : Span) (h1 : 1 ≤ s.ep) (h2 : s.ep ≤ 1099511627776) (w : World) :
    Calls Try.prog 62 #[a.val v, s.val] w fun e w' => e = .returned (.bool (moveOk a.groups s a.plan)) ∧ Below w.heap.size w w' := by
  go_enter Try.func62, Try.ntmps62
  go_wp2
  all_goals
    go_ret
    refine ⟨ret_bool ?_, al3 _ _ _⟩
    grind [moveOk, isE]
end Go.Proofs.Ytimondpollbdfaa
