/- What is proved: what a reply makes of a way that is not right, or over: the program's Heard. Condition: its two slices take at most 2^47 bytes each. -/
import Derived.Test.YtimondpollbdfaaFresh
set_option linter.unusedVariables false
set_option linter.unusedSimpArgs false
namespace Go.Proofs.Ytimondpollbdfaa
open Go.RowKit

structure Rep where
  kind : Int
  hint : Int
  err : Int
  time : Int
  map : Atl
/-- j: the slice of its result's jobs; v: the slice of its map's spans. -/
def Rep.val (p : Rep) (j v : Value) : Value := .agg #[.int .i64 p.kind, .int .i64 p.hint, .int .i64 p.err, .int .i64 p.time, j, .int .i64 p.map.groups, .int .i64 p.map.last, v, .int .i64 p.map.plan.kind, .int .i64 p.map.plan.phase, .int .i64 p.map.plan.shard, .int .i64 p.map.plan.other, .int .i64 p.map.plan.group, .int .i64 p.map.plan.past, .int .i64 p.map.plan.epoch, .string p.map.plan.key]
def Rep.blk (p : Rep) (j v : Value) : Obj := .cells #[.int .i64 p.kind, .int .i64 p.hint, .int .i64 p.err, .int .i64 p.time, j, .int .i64 p.map.groups, .int .i64 p.map.last, v, .int .i64 p.map.plan.kind, .int .i64 p.map.plan.phase, .int .i64 p.map.plan.shard, .int .i64 p.map.plan.other, .int .i64 p.map.plan.group, .int .i64 p.map.plan.past, .int .i64 p.map.plan.epoch, .string p.map.plan.key] 59
attribute [local go_sem] Span.val Atl.val Plan.val Rte.val Rep.val

set_option maxRecDepth 100000 in
set_option maxHeartbeats 1000000 in
theorem heard_wrong (w : World) (A J : Option Addr) (cap jc : Nat) (r : Rte) (l : List JobD) (p : Rep) (pj pv : Value) (h : MapIn w A cap r.map) (hn : r.name.size ≤ 9223372036854775807) (hl1 : r.map.sp.length * 56 ≤ 140737488355328) (hj : RowAt w w.heap.size 8 J (l.map JobD.cells)) (hl2 : l.length * 96 ≤ 140737488355328) (hv : tr (RteOk r) = false) :
    Calls Try.prog 33 #[r.val (.slice A r.map.sp.length cap) (.slice J l.length jc), p.val pj pv] w fun e w' => ∃ A' cap' J' jc', e = .returned (r.val (.slice A' r.map.sp.length cap') (.slice J' l.length jc')) ∧ w'.ownsRow w.heap.size 50 5 (.slice A' r.map.sp.length cap') r.map.sp.length (r.map.sp.map Span.cells).flatten ∧ w'.ownsRow w.heap.size 88 8 (.slice J' l.length jc') l.length (l.map JobD.cells).flatten ∧ Below w.heap.size w w' := by
  have hck := fun w h => rteCheck_any w A cap (.slice J l.length jc) r h hn
  rw [hv] at hck
  have Hck := Lib.hid hck; have HI := Lib.hid h; have HJ := Lib.hid hj; clear hck h hj hv
  go_enter Try.func33, Try.ntmps33
  go_upto_region 1 with fail
  have hX0 : (((w.alloc (r.blk (.slice A r.map.sp.length cap) (.slice J l.length jc))).alloc (p.blk pj pv)).alloc (zeroR.blk nilV nilV)).heap[w.heap.size]? = some (r.blk (.slice A r.map.sp.length cap) (.slice J l.length jc)) := (Below.heap_alloc _ _ _ (by simp; omega)).trans ((Below.heap_alloc _ _ _ (by simp)).trans (heap_alloc_new w _))
  have hR0 : (((w.alloc (r.blk (.slice A r.map.sp.length cap) (.slice J l.length jc))).alloc (p.blk pj pv)).alloc (zeroR.blk nilV nilV)).heap[w.heap.size + 1 + 1]? = some (zeroR.blk nilV nilV) := by simpa using heap_alloc_new ((w.alloc (r.blk (.slice A r.map.sp.length cap) (.slice J l.length jc))).alloc (p.blk pj pv)) (zeroR.blk nilV nilV)
  have hB0 : Below w.heap.size w (((w.alloc (r.blk (.slice A r.map.sp.length cap) (.slice J l.length jc))).alloc (p.blk pj pv)).alloc (zeroR.blk nilV nilV)) := al3 _ _ _
  change Code.wp _ _ _ _ (((w.alloc (r.blk (.slice A r.map.sp.length cap) (.slice J l.length jc))).alloc (p.blk pj pv)).alloc (zeroR.blk nilV nilV))
  have hs0 : (((w.alloc (r.blk (.slice A r.map.sp.length cap) (.slice J l.length jc))).alloc (p.blk pj pv)).alloc (zeroR.blk nilV nilV)).heap.size = w.heap.size + 1 + 1 + 1 := by simp
  generalize ((w.alloc (r.blk (.slice A r.map.sp.length cap) (.slice J l.length jc))).alloc (p.blk pj pv)).alloc (zeroR.blk nilV nilV) = w0 at *
  have Hs0 := Lib.hid hs0; clear hs0
  refine wp_region_lit ?_
  refine wpList_load39 rfl (.tmp 2) rfl w.heap.size rfl hX0 ?_
  simp only [Act.put, List.setIfInBounds_toArray, List.set_cons_zero, List.set_cons_succ]
  refine wpList_step (fun K hK => ?_)
  go_simp
  refine hK _ _ ?_
  clear hK K
  refine wpList_store39 rfl (.tmp 5) (.tmp 7) rfl w0.heap.size rfl (r := r) (v := .slice A r.map.sp.length cap) (j := .slice J l.length jc) (r0 := zeroR) (v0 := nilV) (j0 := nilV) rfl rfl rfl (heap_alloc_new w0 _) ?_
  intro w3 hO3 ho3
  simp only [Act.put, List.setIfInBounds_toArray, List.set_cons_zero, List.set_cons_succ]
  have hb3 : Below w0.heap.size w0 w3 := ho3.below (al _) (fun k hk => by omega) (by simp)
  have hs0 := Hs0.out
  have HX3 := Lib.hid (blk_below hb3 (by omega) hX0)
  have HR3 := Lib.hid (blk_below hb3 (by omega) hR0)
  have HB3 := Lib.hid (hB0.trans (hb3.mono (by omega)))
  have HO3 := Lib.hid hO3
  have hs3 : w0.heap.size < w3.heap.size := lt_of_some hO3
  clear hX0 hR0 hB0 hb3 hO3 ho3 hs0
  go_upto_region 2 with fail
  refine wp_region_lit ?_
  refine wpList_load39 rfl (.tmp 2) rfl w.heap.size rfl HX3.out ?_
  simp only [Act.put, List.setIfInBounds_toArray, List.set_cons_zero, List.set_cons_succ]
  refine wpList_step (fun K hK => ?_)
  go_simp
  go_at_call 56
  refine (fresh_any _ A J cap jc r l (HI.out.below HB3.out) hl1 ((HJ.out.below HB3.out (Nat.le_refl _)).more HB3.out.size) hl2).mono ?_
  rintro e w4 ⟨A', cap', J', jc', rfl, hI4, hJ4, hb4⟩
  refine hK _ _ ?_
  clear hK K
  have hX4 := blk_below hb4 (lt_of_some HX3.out) HX3.out
  have HR4 := Lib.hid (blk_below hb4 (lt_of_some HR3.out) HR3.out)
  have HO4 := Lib.hid (blk_below hb4 (lt_of_some HO3.out) HO3.out)
  have HB4 := Lib.hid (HB3.out.trans (hb4.mono HB3.out.size))
  have HS4 := Lib.hid hb4.size
  refine wpList_store39 rfl (.tmp 2) (.tmp 9) rfl w.heap.size rfl (r := r) (v := .slice A' r.map.sp.length cap') (j := .slice J' l.length jc') rfl rfl rfl hX4 ?_
  intro w5 hX5 ho5
  simp only [Act.put, List.setIfInBounds_toArray, List.set_cons_zero, List.set_cons_succ]
  have hs0 := Hs0.out
  have hsz3 : w.heap.size + 1 + 1 + 1 < w3.heap.size := by omega
  have HI5 := Lib.hid (own_only hI4 ho5 (fun k hk he => by have := (hI4.lt k hk).1; omega))
  have HJ5 := Lib.hid (own_only hJ4 ho5 (fun k hk he => by have := (hJ4.lt k hk).1; omega))
  have HR5 := Lib.hid ((ho5.block _ (lt_of_some HR4.out) (by omega)).trans HR4.out)
  have HO5 := Lib.hid ((ho5.block _ (lt_of_some HO4.out) (by omega)).trans HO4.out)
  have HB5 := Lib.hid (ho5.below HB4.out (fun k hk => by omega) HB4.out.size)
  have HX5 := Lib.hid hX5
  clear hI4 hJ4 hX4 ho5 hX5
  go_upto_region 3 with fail
  refine wp_region_lit ?_
  refine wpList_load39 rfl (.tmp 5) rfl w0.heap.size rfl HO5.out ?_
  simp only [Act.put, List.setIfInBounds_toArray, List.set_cons_zero, List.set_cons_succ]
  clear hs0
  go_upto_region 4 with (go_at_call 26
                         refine (Hck.out _ (HI.out.below HB5.out)).mono ?_
                         rintro e w6 ⟨rfl, hb6⟩
                         have HX6 := Lib.hid (blk_below hb6 (lt_of_some HX5.out) HX5.out)
                         have HR6 := Lib.hid (blk_below hb6 (lt_of_some HR5.out) HR5.out)
                         have HI6 := Lib.hid (own_only HI5.out (Only.of_below (F := fun _ => False) hb6) (fun _ _ h => h))
                         have HJ6 := Lib.hid (own_only HJ5.out (Only.of_below (F := fun _ => False) hb6) (fun _ _ h => h))
                         have HB6 := Lib.hid (HB5.out.trans (hb6.mono HB5.out.size))
                         clear hb6)
  refine wp_region_lit ?_
  refine wpList_load39 rfl (.tmp 2) rfl w.heap.size rfl HX6.out ?_
  simp only [Act.put, List.setIfInBounds_toArray, List.set_cons_zero, List.set_cons_succ]
  refine wpList_store39 rfl (.tmp 4) (.tmp 17) rfl (w.heap.size + 1 + 1) rfl (r := r) (v := .slice A' r.map.sp.length cap') (j := .slice J' l.length jc') rfl rfl rfl HR6.out ?_
  intro w9 h9 ho9
  simp only [Act.put, List.setIfInBounds_toArray, List.set_cons_zero, List.set_cons_succ]
  go_wp2
  refine bodyPost_ret (results39_one rfl _ _ (w.heap.size + 1 + 1) rfl h9) rfl ?_
  have hs0 := Hs0.out
  exact ⟨A', cap', J', jc', rfl, own_base (own_only HI6.out ho9 (fun k hk he => by have := (HI6.out.lt k hk).1; omega)) (by omega), own_base (own_only HJ6.out ho9 (fun k hk he => by have := (HJ6.out.lt k hk).1; omega)) (by omega), ho9.below HB6.out (fun k hk => by omega) HB6.out.size⟩
set_option maxRecDepth 100000 in
set_option maxHeartbeats 1000000 in
theorem heard_over (w : World) (A J : Option Addr) (cap jc : Nat) (r : Rte) (l : List JobD) (p : Rep) (pj pv : Value) (h : MapIn w A cap r.map) (hn : r.name.size ≤ 9223372036854775807) (hl1 : r.map.sp.length * 56 ≤ 140737488355328) (hj : RowAt w w.heap.size 8 J (l.map JobD.cells)) (hl2 : l.length * 96 ≤ 140737488355328) (hv : tr (RteOk r) = true) (hd : r.done = true) :
    Calls Try.prog 33 #[r.val (.slice A r.map.sp.length cap) (.slice J l.length jc), p.val pj pv] w fun e w' => ∃ A' cap' J' jc', e = .returned (r.val (.slice A' r.map.sp.length cap') (.slice J' l.length jc')) ∧ w'.ownsRow w.heap.size 50 5 (.slice A' r.map.sp.length cap') r.map.sp.length (r.map.sp.map Span.cells).flatten ∧ w'.ownsRow w.heap.size 88 8 (.slice J' l.length jc') l.length (l.map JobD.cells).flatten ∧ Below w.heap.size w w' := by
  have hck := fun w h => rteCheck_any w A cap (.slice J l.length jc) r h hn
  rw [hv] at hck
  have Hck := Lib.hid hck; have HI := Lib.hid h; have HJ := Lib.hid hj; clear hck h hj hv
  have Hd := Lib.hid hd; clear hd
  go_enter Try.func33, Try.ntmps33
  go_upto_region 1 with fail
  have hX0 : (((w.alloc (r.blk (.slice A r.map.sp.length cap) (.slice J l.length jc))).alloc (p.blk pj pv)).alloc (zeroR.blk nilV nilV)).heap[w.heap.size]? = some (r.blk (.slice A r.map.sp.length cap) (.slice J l.length jc)) := (Below.heap_alloc _ _ _ (by simp; omega)).trans ((Below.heap_alloc _ _ _ (by simp)).trans (heap_alloc_new w _))
  have hR0 : (((w.alloc (r.blk (.slice A r.map.sp.length cap) (.slice J l.length jc))).alloc (p.blk pj pv)).alloc (zeroR.blk nilV nilV)).heap[w.heap.size + 1 + 1]? = some (zeroR.blk nilV nilV) := by simpa using heap_alloc_new ((w.alloc (r.blk (.slice A r.map.sp.length cap) (.slice J l.length jc))).alloc (p.blk pj pv)) (zeroR.blk nilV nilV)
  have hB0 : Below w.heap.size w (((w.alloc (r.blk (.slice A r.map.sp.length cap) (.slice J l.length jc))).alloc (p.blk pj pv)).alloc (zeroR.blk nilV nilV)) := al3 _ _ _
  change Code.wp _ _ _ _ (((w.alloc (r.blk (.slice A r.map.sp.length cap) (.slice J l.length jc))).alloc (p.blk pj pv)).alloc (zeroR.blk nilV nilV))
  have hs0 : (((w.alloc (r.blk (.slice A r.map.sp.length cap) (.slice J l.length jc))).alloc (p.blk pj pv)).alloc (zeroR.blk nilV nilV)).heap.size = w.heap.size + 1 + 1 + 1 := by simp
  generalize ((w.alloc (r.blk (.slice A r.map.sp.length cap) (.slice J l.length jc))).alloc (p.blk pj pv)).alloc (zeroR.blk nilV nilV) = w0 at *
  have Hs0 := Lib.hid hs0; clear hs0
  refine wp_region_lit ?_
  refine wpList_load39 rfl (.tmp 2) rfl w.heap.size rfl hX0 ?_
  simp only [Act.put, List.setIfInBounds_toArray, List.set_cons_zero, List.set_cons_succ]
  refine wpList_step (fun K hK => ?_)
  go_simp
  refine hK _ _ ?_
  clear hK K
  refine wpList_store39 rfl (.tmp 5) (.tmp 7) rfl w0.heap.size rfl (r := r) (v := .slice A r.map.sp.length cap) (j := .slice J l.length jc) (r0 := zeroR) (v0 := nilV) (j0 := nilV) rfl rfl rfl (heap_alloc_new w0 _) ?_
  intro w3 hO3 ho3
  simp only [Act.put, List.setIfInBounds_toArray, List.set_cons_zero, List.set_cons_succ]
  have hb3 : Below w0.heap.size w0 w3 := ho3.below (al _) (fun k hk => by omega) (by simp)
  have hs0 := Hs0.out
  have HX3 := Lib.hid (blk_below hb3 (by omega) hX0)
  have HR3 := Lib.hid (blk_below hb3 (by omega) hR0)
  have HB3 := Lib.hid (hB0.trans (hb3.mono (by omega)))
  have HO3 := Lib.hid hO3
  have hs3 : w0.heap.size < w3.heap.size := lt_of_some hO3
  clear hX0 hR0 hB0 hb3 hO3 ho3 hs0
  go_upto_region 2 with fail
  refine wp_region_lit ?_
  refine wpList_load39 rfl (.tmp 2) rfl w.heap.size rfl HX3.out ?_
  simp only [Act.put, List.setIfInBounds_toArray, List.set_cons_zero, List.set_cons_succ]
  refine wpList_step (fun K hK => ?_)
  go_simp
  go_at_call 56
  refine (fresh_any _ A J cap jc r l (HI.out.below HB3.out) hl1 ((HJ.out.below HB3.out (Nat.le_refl _)).more HB3.out.size) hl2).mono ?_
  rintro e w4 ⟨A', cap', J', jc', rfl, hI4, hJ4, hb4⟩
  refine hK _ _ ?_
  clear hK K
  have hX4 := blk_below hb4 (lt_of_some HX3.out) HX3.out
  have HR4 := Lib.hid (blk_below hb4 (lt_of_some HR3.out) HR3.out)
  have HO4 := Lib.hid (blk_below hb4 (lt_of_some HO3.out) HO3.out)
  have HB4 := Lib.hid (HB3.out.trans (hb4.mono HB3.out.size))
  have HS4 := Lib.hid hb4.size
  refine wpList_store39 rfl (.tmp 2) (.tmp 9) rfl w.heap.size rfl (r := r) (v := .slice A' r.map.sp.length cap') (j := .slice J' l.length jc') rfl rfl rfl hX4 ?_
  intro w5 hX5 ho5
  simp only [Act.put, List.setIfInBounds_toArray, List.set_cons_zero, List.set_cons_succ]
  have hs0 := Hs0.out
  have hsz3 : w.heap.size + 1 + 1 + 1 < w3.heap.size := by omega
  have HI5 := Lib.hid (own_only hI4 ho5 (fun k hk he => by have := (hI4.lt k hk).1; omega))
  have HJ5 := Lib.hid (own_only hJ4 ho5 (fun k hk he => by have := (hJ4.lt k hk).1; omega))
  have HR5 := Lib.hid ((ho5.block _ (lt_of_some HR4.out) (by omega)).trans HR4.out)
  have HO5 := Lib.hid ((ho5.block _ (lt_of_some HO4.out) (by omega)).trans HO4.out)
  have HB5 := Lib.hid (ho5.below HB4.out (fun k hk => by omega) HB4.out.size)
  have HX5 := Lib.hid hX5
  clear hI4 hJ4 hX4 ho5 hX5
  go_upto_region 3 with fail
  refine wp_region_lit ?_
  refine wpList_load39 rfl (.tmp 5) rfl w0.heap.size rfl HO5.out ?_
  simp only [Act.put, List.setIfInBounds_toArray, List.set_cons_zero, List.set_cons_succ]
  clear hs0
  go_upto_region 4 with (go_at_call 26
                         refine (Hck.out _ (HI.out.below HB5.out)).mono ?_
                         rintro e w6 ⟨rfl, hb6⟩
                         have hc16 := (rte_cells (blk_below hb6 (lt_of_some HO5.out) HO5.out)).1.2.2.2.2.2
                         rw [Hd.out] at hc16
                         obtain ⟨c16, clt⟩ := hc16
                         have HX6 := Lib.hid (blk_below hb6 (lt_of_some HX5.out) HX5.out)
                         have HR6 := Lib.hid (blk_below hb6 (lt_of_some HR5.out) HR5.out)
                         have HI6 := Lib.hid (own_only HI5.out (Only.of_below (F := fun _ => False) hb6) (fun _ _ h => h))
                         have HJ6 := Lib.hid (own_only HJ5.out (Only.of_below (F := fun _ => False) hb6) (fun _ _ h => h))
                         have HB6 := Lib.hid (HB5.out.trans (hb6.mono HB5.out.size))
                         clear hb6)
  refine wp_region_lit ?_
  refine wpList_load39 rfl (.tmp 2) rfl w.heap.size rfl HX6.out ?_
  simp only [Act.put, List.setIfInBounds_toArray, List.set_cons_zero, List.set_cons_succ]
  refine wpList_store39 rfl (.tmp 4) (.tmp 17) rfl (w.heap.size + 1 + 1) rfl (r := r) (v := .slice A' r.map.sp.length cap') (j := .slice J' l.length jc') rfl rfl rfl HR6.out ?_
  intro w9 h9 ho9
  simp only [Act.put, List.setIfInBounds_toArray, List.set_cons_zero, List.set_cons_succ]
  go_wp2
  refine bodyPost_ret (results39_one rfl _ _ (w.heap.size + 1 + 1) rfl h9) rfl ?_
  have hs0 := Hs0.out
  exact ⟨A', cap', J', jc', rfl, own_base (own_only HI6.out ho9 (fun k hk he => by have := (HI6.out.lt k hk).1; omega)) (by omega), own_base (own_only HJ6.out ho9 (fun k hk he => by have := (HJ6.out.lt k hk).1; omega)) (by omega), ho9.below HB6.out (fun k hk => by omega) HB6.out.size⟩
end Go.Proofs.Ytimondpollbdfaa
