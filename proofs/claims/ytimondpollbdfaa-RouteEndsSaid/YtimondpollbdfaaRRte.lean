/- What is proved: whether a way is right: the document's Check. -/
import Derived.Test.YtimondpollbdfaaRte
set_option linter.unusedVariables false
set_option linter.unusedSimpArgs false
namespace Go.Proofs.Ytimondpollbdfaa
open Go.RowKit
attribute [local go_sem] Span.val Atl.val Plan.val Rte.val

set_option maxRecDepth 100000 in
set_option maxHeartbeats 4000000 in
theorem rRteCheck_any (w : World) (A : Option Addr) (cap : Nat) (j : Value) (r : Rte) (h : MapIn w A cap r.map) (hn : r.name.size ≤ 9223372036854775807) :
    Calls Try.prog 27 #[r.val (.slice A r.map.sp.length cap) j] w fun e w' => e = .returned (.bool (tr (RteOk r))) ∧ Below w.heap.size w w' := by
  have hlen : r.map.sp.length ≤ 9223372036854775807 := Nat.le_trans h.ncap h.cmax
  obtain ⟨nodes, name, map, fetch, node, left, done, err, time⟩ := r
  dsimp only at h hn hlen
  have HI := Lib.hid h; clear h
  cases done <;> cases fetch
  all_goals
    go_enter Try.func27, Try.ntmps27
    go_wp2_with (first
      | (go_at_call 51
         refine (rEmpty_any _ A cap map hlen).mono ?_
         rintro e w1 ⟨rfl, hb1⟩
         have hR := blk_below hb1 (by simp) (heap_alloc_new w ((Rte.mk nodes name map _ node left _ err time).blk (.slice A map.sp.length cap) j))
         obtain ⟨⟨c0, c1, c13, c14, c15, c16, clt⟩, ⟨c2, c3, c4, c5, c6, c7, c8, c9, c10, c11, c12⟩, c17, c18, c19⟩ := rte_cells hR
         have HB := Lib.hid ((al (w := w) ((Rte.mk nodes name map _ node left _ err time).blk (.slice A map.sp.length cap) j)).trans (hb1.mono (by simp))); have HR := Lib.hid hR
         clear hb1 hR)
      | (go_at_call 39
         refine (rCheck_any _ A cap map (HI.out.below HB.out)).mono ?_
         rintro e w2 ⟨rfl, hb2⟩
         have hR := blk_below hb2 (lt_of_some HR.out) HR.out
         obtain ⟨⟨c0, c1, c13, c14, c15, c16, clt⟩, ⟨c2, c3, c4, c5, c6, c7, c8, c9, c10, c11, c12⟩, c17, c18, c19⟩ := rte_cells hR
         have HB2 := Lib.hid (HB.out.trans (hb2.mono HB.out.size)); have HR2 := Lib.hid hR
         clear hb2 hR)
      | (go_at_call 49
         refine (rNamed_any name hn _).mono ?_
         rintro e w4 ⟨rfl, hb4⟩
         first
           | (have hR := blk_below hb4 (lt_of_some HR2.out) HR2.out
              have hB := HB2.out.trans (hb4.mono HB2.out.size)
              obtain ⟨⟨c0, c1, c13, c14, c15, c16, clt⟩, ⟨c2, c3, c4, c5, c6, c7, c8, c9, c10, c11, c12⟩, c17, c18, c19⟩ := rte_cells hR
              have HB4 := Lib.hid hB
              clear hb4 hR hB)
           | (have hR := blk_below hb4 (lt_of_some HR.out) HR.out
              have hB := HB.out.trans (hb4.mono HB.out.size)
              obtain ⟨⟨c0, c1, c13, c14, c15, c16, clt⟩, ⟨c2, c3, c4, c5, c6, c7, c8, c9, c10, c11, c12⟩, c17, c18, c19⟩ := rte_cells hR
              have HB4 := Lib.hid hB
              clear hb4 hR hB)))
    all_goals
      go_ret
      refine ⟨ret_bool (eq_tr ?_), ?_⟩
      rotate_left
      · first
          | exact al _
          | exact HB4.out
          | exact HB2.out
          | exact HB.out
      · unfold RteOk
        dsimp only
        clear HI
        first
          | (constructor
             · intro h; cases h
             · rintro ⟨g1, g2, g3, g4, g5, g6, g7, g8, g9⟩
               first
                 | omega
                 | (simp_all; done)
                 | grind)
          | (constructor
             · intro hv
               refine ⟨by omega, by omega, by omega, by omega, by omega, by omega, fun hl => ?_, ?_, ?_⟩
               · first
                   | rfl
                   | (exfalso; simp at hv; omega)
               · simp_all
               · simp_all
             · rintro ⟨g1, g2, g3, g4, g5, g6, g7, g8, g9⟩
               first
                 | rfl
                 | (have g0 : ¬ left = 0 := fun h0 => by have := g7 h0; cases this
                    simp; omega))
          | (simp_all; omega)
          | grind
end Go.Proofs.Ytimondpollbdfaa
