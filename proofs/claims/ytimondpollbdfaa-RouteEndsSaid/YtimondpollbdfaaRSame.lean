/- What is proved: the document's Same on ways: true on two copies of one. -/
import Derived.Test.YtimondpollbdfaaJobs
set_option linter.unusedVariables false
set_option linter.unusedSimpArgs false
namespace Go.Proofs.Ytimondpollbdfaa
open Go.RowKit
attribute [local go_sem] Span.val Atl.val Plan.val Rte.val

set_option maxRecDepth 100000 in
set_option maxHeartbeats 2000000 in
theorem rteSame_true (w : World) (A A' J J' : Option Addr) (cap cap' jc jc' : Nat) (r : Rte) (l : List JobD) (h : MapIn w A cap r.map) (h' : MapIn w A' cap' r.map) (hl : l.length ≤ 9223372036854775807) (hj : RowAt w w.heap.size 8 J (l.map JobD.cells)) (hj' : RowAt w w.heap.size 8 J' (l.map JobD.cells)) :
    Calls Try.prog 28 #[r.val (.slice A r.map.sp.length cap) (.slice J l.length jc), r.val (.slice A' r.map.sp.length cap') (.slice J' l.length jc')] w fun e w' => e = .returned (.bool true) ∧ Below w.heap.size w w' := by
  have HI := Lib.hid h; have HI' := Lib.hid h'; have HJ := Lib.hid hj; have HJ' := Lib.hid hj'; clear h h' hj hj'
  have hX0 : ((w.alloc (r.blk (.slice A r.map.sp.length cap) (.slice J l.length jc))).alloc (r.blk (.slice A' r.map.sp.length cap') (.slice J' l.length jc'))).heap[w.heap.size]? = some (r.blk (.slice A r.map.sp.length cap) (.slice J l.length jc)) := (Below.heap_alloc _ _ _ (by simp)).trans (heap_alloc_new w _)
  have hY0 : ((w.alloc (r.blk (.slice A r.map.sp.length cap) (.slice J l.length jc))).alloc (r.blk (.slice A' r.map.sp.length cap') (.slice J' l.length jc'))).heap[w.heap.size + 1]? = some (r.blk (.slice A' r.map.sp.length cap') (.slice J' l.length jc')) := heap_second _ _ _
  have hB0 : Below w.heap.size w ((w.alloc (r.blk (.slice A r.map.sp.length cap) (.slice J l.length jc))).alloc (r.blk (.slice A' r.map.sp.length cap') (.slice J' l.length jc'))) := al2 _ _
  go_enter Try.func28, Try.ntmps28
  go_wp2_with (first
    | (go_at_call 16
       refine (same_true _ A A' cap cap' r.map (HI.out.below (al2 _ _)) (HI'.out.below (al2 _ _))).mono ?_
       rintro e w1 ⟨rfl, hb1⟩
       have hX := blk_below hb1 (by simp; omega) hX0
       have hY := blk_below hb1 (by simp) hY0
       have hB := hB0.trans (hb1.mono (by simp; omega))
       obtain ⟨⟨c0, c1, c13, c14, c15, c16, clt⟩, ⟨c2, c3, c4, c5, c6, c7, c8, c9, c10, c11, c12⟩, c17, c18, c19⟩ := rte_cells hX
       obtain ⟨⟨d0, d1, d13, d14, d15, d16, dlt⟩, ⟨d2, d3, d4, d5, d6, d7, d8, d9, d10, d11, d12⟩, d17, d18, d19⟩ := rte_cells hY
       have HB := Lib.hid hB
       clear hb1 hX hY hB hX0 hY0 hB0)
    | (go_at_call 35
       refine (result_true _ J J' jc jc' r.err r.time l hl ((HJ.out.below HB.out (Nat.le_refl _)).more HB.out.size) ((HJ'.out.below HB.out (Nat.le_refl _)).more HB.out.size)).mono ?_
       rintro e w2 ⟨rfl, hb2⟩))
  go_ret
  exact ⟨rfl, HB.out.trans (hb2.mono HB.out.size)⟩
end Go.Proofs.Ytimondpollbdfaa
