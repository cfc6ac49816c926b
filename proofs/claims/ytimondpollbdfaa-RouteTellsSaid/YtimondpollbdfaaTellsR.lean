/- What is proved: RouteTells answers yes, whatever the way, the map and the numbers. -/
import Derived.Test.YtimondpollbdfaaAwakeR
import Derived.Test.YtimondpollbdfaaTellsLaw
set_option linter.unusedVariables false
set_option linter.unusedSimpArgs false
namespace Go.Proofs.Ytimondpollbdfaa
open Go.RowKit
attribute [local go_sem] Span.val Atl.val Plan.val Rte.val tup4

set_option maxRecDepth 100000 in
set_option maxHeartbeats 4000000 in
theorem tells_any (w : World) (A J B : Option Addr) (cap jc bc : Nat) (r : Rte) (l : List JobD) (known : Atl) (nodes tries : Int) (name : ByteArray) (h : MapIn w A cap r.map) (hn : r.name.size ≤ 9223372036854775807) (hB : MapIn w B bc known) (hnm : name.size ≤ 9223372036854775807) :
    Calls Try.prog 4 #[r.val (.slice A r.map.sp.length cap) (.slice J l.length jc), .int .i64 nodes, .string name, known.val (.slice B known.sp.length bc), .int .i64 tries] w fun e w' => e = .returned (.bool true) ∧ Below w.heap.size w w' := by
  obtain ⟨wa, wb, wc, wd, hW1, hW2⟩ := where_both A cap (.slice J l.length jc) r w h hn
  obtain ⟨R, en, hG1, hG2⟩ := begin_both B bc known nodes tries name hnm
  have hC1 := fun w h => rteCheck_any w A cap (.slice J l.length jc) r h hn
  have hC2 := fun w h => rRteCheck_any w A cap (.slice J l.length jc) r h hn
  generalize tr (RteOk r) = ok at hC1 hC2
  have HW1 := Lib.hid hW1; have HW2 := Lib.hid hW2; have HG1 := Lib.hid hG1; have HG2 := Lib.hid hG2; have HC1 := Lib.hid hC1; have HC2 := Lib.hid hC2
  have HI := Lib.hid h; have HK := Lib.hid hB
  clear hW1 hW2 hG1 hG2 hC1 hC2 h hB hn hnm
  go_enter Try.func4, Try.ntmps4
  go_upto_region 1 with fail
  have hX0 : ((w.alloc (r.blk (.slice A r.map.sp.length cap) (.slice J l.length jc))).alloc (known.blk (.slice B known.sp.length bc))).heap[w.heap.size]? = some (r.blk (.slice A r.map.sp.length cap) (.slice J l.length jc)) := (Below.heap_alloc _ _ _ (by simp)).trans (heap_alloc_new w _)
  have hY0 : ((w.alloc (r.blk (.slice A r.map.sp.length cap) (.slice J l.length jc))).alloc (known.blk (.slice B known.sp.length bc))).heap[w.heap.size + 1]? = some (known.blk (.slice B known.sp.length bc)) := heap_second _ _ _
  have hB0 : Below w.heap.size w ((w.alloc (r.blk (.slice A r.map.sp.length cap) (.slice J l.length jc))).alloc (known.blk (.slice B known.sp.length bc))) := al2 _ _
  change Code.wp _ _ _ _ ((w.alloc (r.blk (.slice A r.map.sp.length cap) (.slice J l.length jc))).alloc (known.blk (.slice B known.sp.length bc)))
  generalize (w.alloc (r.blk (.slice A r.map.sp.length cap) (.slice J l.length jc))).alloc (known.blk (.slice B known.sp.length bc)) = w0 at *
  have HX0 := Lib.hid hX0; have HY0 := Lib.hid hY0; have HB0 := Lib.hid hB0
  clear hX0 hY0 hB0
  go_upto_region 3 with (go_at_call 21
                         refine (awakeR _).mono ?_
                         rintro e w1 ⟨rfl, hb1⟩
                         have HX1 := Lib.hid (blk_below hb1 (lt_of_some HX0.out) HX0.out)
                         have HY1 := Lib.hid (blk_below hb1 (lt_of_some HY0.out) HY0.out)
                         have HB1 := Lib.hid (HB0.out.trans (hb1.mono HB0.out.size))
                         clear hb1)
  refine wp_region_lit ?_
  refine wpList_load39 rfl (.tmp 5) rfl (w.heap.size) rfl HX1.out ?_
  simp only [Act.put, List.setIfInBounds_toArray, List.set_cons_zero, List.set_cons_succ]
  refine wpList_step (fun K hK => ?_)
  go_simp
  go_at_call 22
  refine (HW1.out _ (HI.out.below HB1.out)).mono ?_
  rintro e w2 ⟨rfl, hb2⟩
  refine hK _ _ ?_
  clear hK K
  have HX2 := Lib.hid (blk_below hb2 (lt_of_some HX1.out) HX1.out)
  have HY2 := Lib.hid (blk_below hb2 (lt_of_some HY1.out) HY1.out)
  have HB2 := Lib.hid (HB1.out.trans (hb2.mono HB1.out.size))
  clear hb2
  go_upto_region 4 with fail
  refine wp_region_lit ?_
  refine wpList_load39 rfl (.tmp 5) rfl (w.heap.size) rfl HX2.out ?_
  simp only [Act.put, List.setIfInBounds_toArray, List.set_cons_zero, List.set_cons_succ]
  refine wpList_step (fun K hK => ?_)
  go_simp
  go_at_call 23
  refine (HW2.out _ (HI.out.below HB2.out)).mono ?_
  rintro e w3 ⟨rfl, hb3⟩
  refine hK _ _ ?_
  clear hK K
  have HX3 := Lib.hid (blk_below hb3 (lt_of_some HX2.out) HX2.out)
  have HY3 := Lib.hid (blk_below hb3 (lt_of_some HY2.out) HY2.out)
  have HB3 := Lib.hid (HB2.out.trans (hb3.mono HB2.out.size))
  clear hb3
  go_upto_region 5 with fail
  refine wp_region_lit ?_
  refine wpList_step (fun K hK => ?_)
  go_simp
  refine hK _ _ ?_
  clear hK K
  refine wpList_step (fun K hK => ?_)
  go_simp
  refine hK _ _ ?_
  clear hK K
  refine wpList_load26 rfl (.tmp 8) rfl (w.heap.size + 1) rfl HY3.out ?_
  simp only [Act.put, List.setIfInBounds_toArray, List.set_cons_zero, List.set_cons_succ]
  refine wpList_step (fun K hK => ?_)
  go_simp
  refine hK _ _ ?_
  clear hK K
  refine wpList_step (fun K hK => ?_)
  go_simp
  go_at_call 24
  refine (HG1.out _ (HK.out.below HB3.out)).mono ?_
  rintro e w4 ⟨As, caps, rfl, hIs, hb4⟩
  refine hK _ _ ?_
  clear hK K
  refine wpList_step (fun K hK => ?_)
  go_simp
  refine hK _ _ ?_
  clear hK K
  refine wpList_step (fun K hK => ?_)
  go_simp
  refine hK _ _ ?_
  clear hK K
  refine wpList_step (fun K hK => ?_)
  go_simp
  refine hK _ _ ?_
  clear hK K
  refine wpList_step (fun K hK => ?_)
  go_simp
  refine hK _ _ ?_
  clear hK K
  refine wpList_store39 rfl (.tmp 19) (.tmp 45) rfl w4.heap.size rfl (r := R) (v := (.slice As R.map.sp.length caps)) (j := nilV) (r0 := zeroR) (v0 := nilV) (j0 := nilV) rfl rfl rfl (heap_alloc_new w4 _) ?_
  intro w5 hS ho
  simp only [Act.put, List.setIfInBounds_toArray, List.set_cons_zero, List.set_cons_succ]
  have hb : Below w4.heap.size w4 w5 := ho.below (al _) (fun k hk => by omega) (by simp)
  have hl : w4.heap.size < w5.heap.size := lt_of_some hS
  clear ho
  have hb5 : Below w3.heap.size w3 w5 := hb4.trans (hb.mono hb4.size)
  have HS5 := Lib.hid hS
  have HIs5 := Lib.hid (hIs.below hb)
  have HX5 := Lib.hid (blk_below hb5 (lt_of_some HX3.out) HX3.out)
  have HY5 := Lib.hid (blk_below hb5 (lt_of_some HY3.out) HY3.out)
  have HB5 := Lib.hid (HB3.out.trans (hb5.mono HB3.out.size))
  clear hb4 hb hb5 hS hIs
  go_upto_region 6 with fail
  refine wp_region_lit ?_
  refine wpList_step (fun K hK => ?_)
  go_simp
  refine hK _ _ ?_
  clear hK K
  refine wpList_step (fun K hK => ?_)
  go_simp
  refine hK _ _ ?_
  clear hK K
  refine wpList_load26 rfl (.tmp 8) rfl (w.heap.size + 1) rfl HY5.out ?_
  simp only [Act.put, List.setIfInBounds_toArray, List.set_cons_zero, List.set_cons_succ]
  refine wpList_step (fun K hK => ?_)
  go_simp
  refine hK _ _ ?_
  clear hK K
  refine wpList_step (fun K hK => ?_)
  go_simp
  go_at_call 25
  refine (HG2.out _ (HK.out.below HB5.out)).mono ?_
  rintro e w6 ⟨At, capt, rfl, hIt, hb6⟩
  refine hK _ _ ?_
  clear hK K
  refine wpList_step (fun K hK => ?_)
  go_simp
  refine hK _ _ ?_
  clear hK K
  refine wpList_step (fun K hK => ?_)
  go_simp
  refine hK _ _ ?_
  clear hK K
  refine wpList_step (fun K hK => ?_)
  go_simp
  refine hK _ _ ?_
  clear hK K
  refine wpList_step (fun K hK => ?_)
  go_simp
  refine hK _ _ ?_
  clear hK K
  refine wpList_store39 rfl (.tmp 21) (.tmp 53) rfl w6.heap.size rfl (r := R) (v := (.slice At R.map.sp.length capt)) (j := nilV) (r0 := zeroR) (v0 := nilV) (j0 := nilV) rfl rfl rfl (heap_alloc_new w6 _) ?_
  intro w7 hT ho
  simp only [Act.put, List.setIfInBounds_toArray, List.set_cons_zero, List.set_cons_succ]
  have hb : Below w6.heap.size w6 w7 := ho.below (al _) (fun k hk => by omega) (by simp)
  have hl : w6.heap.size < w7.heap.size := lt_of_some hT
  clear ho
  have hb7 : Below w5.heap.size w5 w7 := hb6.trans (hb.mono hb6.size)
  have HT7 := Lib.hid hT
  have HIt7 := Lib.hid (hIt.below hb)
  have HIs7 := Lib.hid (HIs5.out.below hb7)
  have HS7 := Lib.hid (blk_below hb7 (lt_of_some HS5.out) HS5.out)
  have HX7 := Lib.hid (blk_below hb7 (lt_of_some HX5.out) HX5.out)
  have HB7 := Lib.hid (HB5.out.trans (hb7.mono HB5.out.size))
  clear hb6 hb hb7 hT hIt
  go_upto_region 7 with fail
  have hpost : ∀ x, Below w.heap.size w (over w7 x) := fun x => HB7.out.trans ((below_over w7 x).mono HB7.out.size)
  refine wp_region_over (by kernel_rfl) (by kernel_rfl) ?_
  refine wpQuiet_load39 rfl (.tmp 5) rfl (w.heap.size) rfl HX7.out ?_
  simp only [Act.put, List.setIfInBounds_toArray, List.set_cons_zero, List.set_cons_succ]
  go_big_quiet_step (first
    | (go_at_call 26; exact calls_over (HC1.out _ ((HI.out.below HB7.out).below (below_over w7 _))))
    | (go_at_call 27; exact calls_over (HC2.out _ ((HI.out.below HB7.out).below (below_over w7 _))))
    | (go_at_call 28; exact calls_over (rteSame_true (over w7 _) As At none none caps capt 0 0 R [] (HIs7.out.below (below_over w7 _)) (HIt7.out.below (below_over w7 _)) (by decide) (rowAt_nil _ _ _ _) (rowAt_nil _ _ _ _))))
  refine wpQuiet_load39 rfl (.tmp 5) rfl (w.heap.size) rfl HX7.out ?_
  simp only [Act.put, List.setIfInBounds_toArray, List.set_cons_zero, List.set_cons_succ]
  go_big_quiet_step (first
    | (go_at_call 26; exact calls_over (HC1.out _ ((HI.out.below HB7.out).below (below_over w7 _))))
    | (go_at_call 27; exact calls_over (HC2.out _ ((HI.out.below HB7.out).below (below_over w7 _))))
    | (go_at_call 28; exact calls_over (rteSame_true (over w7 _) As At none none caps capt 0 0 R [] (HIs7.out.below (below_over w7 _)) (HIt7.out.below (below_over w7 _)) (by decide) (rowAt_nil _ _ _ _) (rowAt_nil _ _ _ _))))
  go_big_quiet_step (fail)
  go_big_quiet_step (fail)
  go_big_quiet_step (fail)
  go_big_quiet_step (fail)
  go_big_quiet_step (fail)
  go_big_quiet_step (fail)
  go_big_quiet_step (fail)
  go_big_quiet_step (fail)
  go_big_quiet_step (fail)
  go_big_quiet_step (fail)
  go_big_quiet_step (fail)
  go_big_quiet_step (fail)
  go_big_quiet_step (fail)
  go_big_quiet_step (fail)
  go_big_quiet_step (fail)
  go_big_quiet_step (fail)
  go_big_quiet_step (fail)
  go_big_quiet_step (fail)
  go_big_quiet_step (fail)
  go_big_quiet_step (fail)
  go_big_quiet_step (fail)
  go_big_quiet_step (fail)
  go_big_quiet_step (fail)
  go_big_quiet_step (fail)
  go_big_quiet_step (fail)
  go_big_quiet_step (fail)
  go_big_quiet_step (fail)
  refine wpQuiet_load39 rfl (.tmp 19) rfl (w4.heap.size) rfl HS7.out ?_
  simp only [Act.put, List.setIfInBounds_toArray, List.set_cons_zero, List.set_cons_succ]
  refine wpQuiet_load39 rfl (.tmp 21) rfl (w6.heap.size) rfl HT7.out ?_
  simp only [Act.put, List.setIfInBounds_toArray, List.set_cons_zero, List.set_cons_succ]
  go_big_quiet_step (first
    | (go_at_call 26; exact calls_over (HC1.out _ ((HI.out.below HB7.out).below (below_over w7 _))))
    | (go_at_call 27; exact calls_over (HC2.out _ ((HI.out.below HB7.out).below (below_over w7 _))))
    | (go_at_call 28; exact calls_over (rteSame_true (over w7 _) As At none none caps capt 0 0 R [] (HIs7.out.below (below_over w7 _)) (HIt7.out.below (below_over w7 _)) (by decide) (rowAt_nil _ _ _ _) (rowAt_nil _ _ _ _))))
  go_big_quiet_step (fail)
  go_big_quiet_step (fail)
  refine wpQuiet_nil ?_
  intro _ hw'
  obtain ⟨nx, hw''⟩ := hw'
  subst hw''
  go_wp2
  go_ret
  exact ⟨rfl, hpost nx⟩
end Go.Proofs.Ytimondpollbdfaa
