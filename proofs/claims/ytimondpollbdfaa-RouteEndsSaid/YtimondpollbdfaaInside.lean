/- What is proved: whether a key may part a span: both programs' inside. -/
import Derived.Test.YtimondpollbdfaaPlace
import Derived.Test.YtimondpollbdfaaStr
set_option linter.unusedVariables false
set_option linter.unusedSimpArgs false
namespace Go.Proofs.Ytimondpollbdfaa
open Go.RowKit
attribute [local go_sem] Span.val Atl.val Plan.val

def inside (s : Span) (k : ByteArray) : Bool := named k && sLt s.fr k && (isE s.to || sLt k s.to)

set_option maxHeartbeats 1000000 in
theorem inside_any (s : Span) (k : ByteArray) (hk : k.size ≤ 9223372036854775807) (w : World) :
    Calls Try.prog 66 #[s.val, .string k] w fun e w' => e = .returned (.bool (inside s k)) ∧ Below w.heap.size w w' := by
  have hg := Lib.hid (gt_iff k s.fr)
  go_enter Try.func66, Try.ntmps66
  go_wp2_with (go_at_call 47; refine (named_any k hk _).mono ?_; rintro e w1 ⟨rfl, hb1⟩; obtain ⟨c0, c1, _, _, _, hlt⟩ := span_blk (blk_below hb1 (by simp) (heap_alloc_new w s.blk)))
  all_goals
    go_ret
    refine ⟨ret_bool ?_, (al (w := w) s.blk).trans (hb1.mono (by simp))⟩
    have hg := hg.out
    clear hb1
    grind [inside, sLt, isE]

set_option maxHeartbeats 1000000 in
theorem rInside_any (s : Span) (k : ByteArray) (hk : k.size ≤ 9223372036854775807) (w : World) :
    Calls Try.prog 63 #[s.val, .string k] w fun e w' => e = .returned (.bool (inside s k)) ∧ Below w.heap.size w w' := by
  go_enter Try.func63, Try.ntmps63
  go_wp2_with (go_at_call 49; refine (rNamed_any k hk _).mono ?_; rintro e w1 ⟨rfl, hb1⟩; obtain ⟨c0, c1, _, _, _, hlt⟩ := span_blk (blk_below hb1 (by simp) (heap_alloc_new w s.blk)))
  all_goals
    go_ret
    refine ⟨ret_bool ?_, (al (w := w) s.blk).trans (hb1.mono (by simp))⟩
    clear hb1
    grind [inside, sLt, isE]
end Go.Proofs.Ytimondpollbdfaa
