/- What is proved: RouteHears answers yes, whatever the way and the reply. Condition: the slices of both take at most 2^47 bytes. -/
import Derived.Test.YtimondpollbdfaaHeardSum
import Derived.Test.YtimondpollbdfaaAwakeR
set_option linter.unusedVariables false
set_option linter.unusedSimpArgs false
namespace Go.Proofs.Ytimondpollbdfaa
open Go.RowKit
attribute [local go_sem] Span.val Atl.val Plan.val Rte.val Rep.val

set_option maxRecDepth 100000 in
set_option maxHeartbeats 4000000 in
theorem rhears_law (w : World) (A : Option Addr) (cap : Nat) (J : Option Addr) (jc : Nat) (r : Rte) (l : List JobD) (K : Option Addr) (kc : Nat) (B : Option Addr) (bc : Nat) (p : Rep) (pl : List JobD) (hr : WayIn w A cap J jc r l) (hp : RepIn w K kc B bc p pl) :
    Calls Try.prog 6 #[r.val (.slice A r.map.sp.length cap) (.slice J l.length jc), p.val (.slice K pl.length kc) (.slice B p.map.sp.length bc)] w fun e w' => e = .returned (.bool true) ∧ Below w.heap.size w w' := by
  have Hr := Lib.hid hr; have Hp := Lib.hid hp
  clear hr hp
  have h33 := fun w hr hp => heard33 w A cap J jc r l K kc B bc p pl hr hp
  have h34 := fun w hr hp => heard34 w A cap J jc r l K kc B bc p pl hr hp
  obtain ⟨R, hR⟩ : ∃ R, (heardR r l p pl).1 = R := ⟨_, rfl⟩
  obtain ⟨L, hL⟩ : ∃ L, (heardR r l p pl).2 = L := ⟨_, rfl⟩
  rw [hR, hL] at h33 h34
  have H33 := Lib.hid h33; have H34 := Lib.hid h34
  clear h33 h34 hR hL
  go_enter Try.func6, Try.ntmps6
  go_upto_region 1 with fail
  have hX0 : ((w.alloc (r.blk (.slice A r.map.sp.length cap) (.slice J l.length jc))).alloc (p.blk (.slice K pl.length kc) (.slice B p.map.sp.length bc))).heap[w.heap.size]? = some (r.blk (.slice A r.map.sp.length cap) (.slice J l.length jc)) := (Below.heap_alloc _ _ _ (by simp)).trans (heap_alloc_new w _)
  have hP0 : ((w.alloc (r.blk (.slice A r.map.sp.length cap) (.slice J l.length jc))).alloc (p.blk (.slice K pl.length kc) (.slice B p.map.sp.length bc))).heap[w.heap.size + 1]? = some (p.blk (.slice K pl.length kc) (.slice B p.map.sp.length bc)) := heap_second _ _ _
  have hB0 : Below w.heap.size w ((w.alloc (r.blk (.slice A r.map.sp.length cap) (.slice J l.length jc))).alloc (p.blk (.slice K pl.length kc) (.slice B p.map.sp.length bc))) := al2 _ _
  change Code.wp _ _ _ _ ((w.alloc (r.blk (.slice A r.map.sp.length cap) (.slice J l.length jc))).alloc (p.blk (.slice K pl.length kc) (.slice B p.map.sp.length bc)))
  generalize ((w.alloc (r.blk (.slice A r.map.sp.length cap) (.slice J l.length jc))).alloc (p.blk (.slice K pl.length kc) (.slice B p.map.sp.length bc))) = w0 at *
  have HX0 := Lib.hid hX0; have HP0 := Lib.hid hP0; have HB0 := Lib.hid hB0
  clear hX0 hP0 hB0
  go_upto_region 3 with (go_at_call 21
                         refine (awakeR _).mono ?_
                         rintro e w1 ⟨rfl, hb1⟩
                         have HX1 := Lib.hid (blk_below hb1 (lt_of_some HX0.out) HX0.out); have HP1 := Lib.hid (blk_below hb1 (lt_of_some HP0.out) HP0.out)
                         have HB1 := Lib.hid (HB0.out.trans (hb1.mono HB0.out.size))
                         clear hb1)
  refine wp_region_held_drew (S := fun w' => w'.heap[w.heap.size]? = some (r.blk (.slice A r.map.sp.length cap) (.slice J l.length jc)) ∧ w'.heap[w.heap.size + 1]? = some (p.blk (.slice K pl.length kc) (.slice B p.map.sp.length bc))) (by kernel_rfl) ?_ (fun hHeld => ?_)
  · exact ⟨HX1.out, HP1.out⟩
  have hB2 : Below w.heap.size w w1.drew := HB1.out.drew
  generalize w1.drew = w2 at *
  have HB2 := Lib.hid hB2
  clear hB2 HX1 HP1 HB1
  refine wpAnyH_take (i := 0) (v := r.val (.slice A r.map.sp.length cap) (.slice J l.length jc)) rfl (by kernel_rfl) (by kernel_rfl) (by kernel_rfl) (fun _ _ _ h => h) (yields39 rfl (.tmp 2) rfl w.heap.size rfl (fun w h => h.1)) hHeld ?_
  simp only [Act.put, List.setIfInBounds_toArray, List.set_cons_zero, List.set_cons_succ]
  refine wpAnyH_take (i := 1) (v := p.val (.slice K pl.length kc) (.slice B p.map.sp.length bc)) rfl (by kernel_rfl) (by kernel_rfl) (by kernel_rfl) (fun _ _ _ h => h) (yields59 rfl (.tmp 3) rfl (w.heap.size + 1) rfl (fun w h => h.2)) hHeld ?_
  simp only [Act.put, List.setIfInBounds_toArray, List.set_cons_zero, List.set_cons_succ]
  refine wpAnyH_take (i := 3) (v := r.val (.slice A r.map.sp.length cap) (.slice J l.length jc)) rfl (by kernel_rfl) (by kernel_rfl) (by kernel_rfl) (fun _ _ _ h => h) (yields39 rfl (.tmp 2) rfl w.heap.size rfl (fun w h => h.1)) hHeld ?_
  simp only [Act.put, List.setIfInBounds_toArray, List.set_cons_zero, List.set_cons_succ]
  refine wpAnyH_take (i := 4) (v := p.val (.slice K pl.length kc) (.slice B p.map.sp.length bc)) rfl (by kernel_rfl) (by kernel_rfl) (by kernel_rfl) (fun _ _ _ h => h) (yields59 rfl (.tmp 3) rfl (w.heap.size + 1) rfl (fun w h => h.2)) hHeld ?_
  simp only [Act.put, List.setIfInBounds_toArray, List.set_cons_zero, List.set_cons_succ]
  refine wpAnyH_ready (rs := [2]) (by kernel_rfl) (by simp) ?_
  refine AllReadyH.cons rfl (fun K' hK => ?_) AllReadyH.nil
  go_simp
  go_at_call 33
  refine (H33.out _ (Hr.out.below HB2.out) (Hp.out.below HB2.out)).mono ?_
  rintro e w3 ⟨A3, c3, J3, j3, rfl, hI3, _, hb3⟩
  refine hK.out _ _ ?_ (fun hHeld3 => ?_)
  · exact ⟨blk_below hb3 (lt_of_some hHeld.1) hHeld.1, blk_below hb3 (lt_of_some hHeld.2) hHeld.2⟩
  have HI3 := Lib.hid hI3; have HB3 := Lib.hid (HB2.out.trans (hb3.mono HB2.out.size))
  clear hK K' hI3 hb3
  try simp only [Act.put, List.setIfInBounds_toArray, List.set_cons_zero, List.set_cons_succ]
  refine wpAnyH_ready (rs := [5]) (by kernel_rfl) (by simp) ?_
  refine AllReadyH.cons rfl (fun K' hK => ?_) AllReadyH.nil
  go_simp
  go_at_call 34
  refine (H34.out _ (Hr.out.below HB3.out) (Hp.out.below HB3.out)).mono ?_
  rintro e w4 ⟨A4, c4, J4, j4, rfl, hI4, hb4⟩
  refine hK.out _ _ ?_ (fun hHeld4 => ?_)
  · exact ⟨blk_below hb4 (lt_of_some hHeld3.1) hHeld3.1, blk_below hb4 (lt_of_some hHeld3.2) hHeld3.2⟩
  have HI4 := Lib.hid hI4; have HK4 := Lib.hid (HI3.out.below hb4); have HB4 := Lib.hid (HB3.out.trans (hb4.mono HB3.out.size))
  clear hK K' hI4 hb4
  try simp only [Act.put, List.setIfInBounds_toArray, List.set_cons_zero, List.set_cons_succ]
  refine wpAnyH_ready (rs := [6]) (by kernel_rfl) (by simp) ?_
  refine AllReadyH.cons rfl (fun K' hK => ?_) AllReadyH.nil
  go_simp
  go_at_call 28
  refine (rteSame_true w4 A3 A4 J3 J4 c3 c4 j3 j4 R L HK4.out.map HI4.out.map (by have := HK4.out.jb; omega) HK4.out.jobs HI4.out.jobs).mono ?_
  rintro e w5 ⟨rfl, hb5⟩
  refine hK.out _ _ ?_ (fun hHeld5 => ?_)
  · exact ⟨blk_below hb5 (lt_of_some hHeld4.1) hHeld4.1, blk_below hb5 (lt_of_some hHeld4.2) hHeld4.2⟩
  have HB5 := Lib.hid (HB4.out.trans (hb5.mono HB4.out.size))
  clear hK K' hb5
  try simp only [Act.put, List.setIfInBounds_toArray, List.set_cons_zero, List.set_cons_succ]
  refine wpAnyH_ready (rs := [7]) (by kernel_rfl) (by simp) ?_
  refine AllReadyH.cons rfl (fun K' hK => ?_) AllReadyH.nil
  go_simp
  refine hK.out _ _ ?_ (fun hHeld6 => ?_)
  · exact hHeld5
  clear hK K'
  try simp only [Act.put, List.setIfInBounds_toArray, List.set_cons_zero, List.set_cons_succ]
  refine wpAnyH_done (by kernel_rfl) ?_ _
  go_wp2_with fail
  go_ret
  exact ⟨rfl, HB5.out⟩
end Go.Proofs.Ytimondpollbdfaa
