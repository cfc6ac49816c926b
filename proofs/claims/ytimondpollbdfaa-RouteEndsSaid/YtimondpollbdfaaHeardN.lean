/- What is proved: what a reply of an unknown kind makes of a right way: the program's Heard. -/
import Derived.Test.YtimondpollbdfaaHeardS
set_option linter.unusedVariables false
set_option linter.unusedSimpArgs false
namespace Go.Proofs.Ytimondpollbdfaa
open Go.RowKit
attribute [local go_sem] Span.val Atl.val Plan.val Rte.val Rep.val

set_option maxRecDepth 100000 in
set_option maxHeartbeats 1000000 in
theorem heard_next (w : World) (A J : Option Addr) (cap jc : Nat) (r : Rte) (l : List JobD) (p : Rep) (pj pv : Value) (h : MapIn w A cap r.map) (hn : r.name.size ≤ 9223372036854775807) (hl1 : r.map.sp.length * 56 ≤ 140737488355328) (hj : RowAt w w.heap.size 8 J (l.map JobD.cells)) (hl2 : l.length * 96 ≤ 140737488355328) (hv : tr (RteOk r) = true) (hd : r.done = false) (k1 : ¬ p.kind = 1) (k2 : ¬ p.kind = 2) (k3 : ¬ p.kind = 3) (k5 : ¬ r.left = 1) :
    Calls Try.prog 33 #[r.val (.slice A r.map.sp.length cap) (.slice J l.length jc), p.val pj pv] w fun e w' => ∃ A' cap' J' jc', e = .returned ({ r with node := r.node % r.nodes + 1, left := r.left - 1 }.val (.slice A' r.map.sp.length cap') (.slice J' l.length jc')) ∧ w'.ownsRow w.heap.size 50 5 (.slice A' r.map.sp.length cap') r.map.sp.length (r.map.sp.map Span.cells).flatten ∧ w'.ownsRow w.heap.size 88 8 (.slice J' l.length jc') l.length (l.map JobD.cells).flatten ∧ Below w.heap.size w w' := by
  have hok := of_tr hv
  have g1 := hok.1; have g2 := hok.2.1; have g3 := hok.2.2.1; have g4 := hok.2.2.2.1; have g5 := hok.2.2.2.2.1; have g6 := hok.2.2.2.2.2.1
  clear hok
  have e1 : 0 ≤ r.node % r.nodes := Int.emod_nonneg _ (by omega)
  have e2 : r.node % r.nodes < r.nodes := Int.emod_lt_of_pos _ (by omega)
  have hck := fun w h => rteCheck_any w A cap (.slice J l.length jc) r h hn
  rw [hv] at hck
  have Hck := Lib.hid hck; have HI := Lib.hid h; have HJ := Lib.hid hj; clear hck h hj hv
  have Hd := Lib.hid hd; clear hd
  go_enter Try.func33, Try.ntmps33
  go_upto_region 1 with fail
  have hX0 : (((w.alloc (r.blk (.slice A r.map.sp.length cap) (.slice J l.length jc))).alloc (p.blk pj pv)).alloc (zeroR.blk nilV nilV)).heap[w.heap.size]? = some (r.blk (.slice A r.map.sp.length cap) (.slice J l.length jc)) := (Below.heap_alloc _ _ _ (by simp; omega)).trans ((Below.heap_alloc _ _ _ (by simp)).trans (heap_alloc_new w _))
  have hR0 : (((w.alloc (r.blk (.slice A r.map.sp.length cap) (.slice J l.length jc))).alloc (p.blk pj pv)).alloc (zeroR.blk nilV nilV)).heap[w.heap.size + 1 + 1]? = some (zeroR.blk nilV nilV) := by simpa using heap_alloc_new ((w.alloc (r.blk (.slice A r.map.sp.length cap) (.slice J l.length jc))).alloc (p.blk pj pv)) (zeroR.blk nilV nilV)
  have hP0 : (((w.alloc (r.blk (.slice A r.map.sp.length cap) (.slice J l.length jc))).alloc (p.blk pj pv)).alloc (zeroR.blk nilV nilV)).heap[w.heap.size + 1]? = some (p.blk pj pv) := (Below.heap_alloc _ _ _ (by simp)).trans (heap_second _ _ _)
  have hB0 : Below w.heap.size w (((w.alloc (r.blk (.slice A r.map.sp.length cap) (.slice J l.length jc))).alloc (p.blk pj pv)).alloc (zeroR.blk nilV nilV)) := al3 _ _ _
  change Code.wp _ _ _ _ (((w.alloc (r.blk (.slice A r.map.sp.length cap) (.slice J l.length jc))).alloc (p.blk pj pv)).alloc (zeroR.blk nilV nilV))
  have hs0 : (((w.alloc (r.blk (.slice A r.map.sp.length cap) (.slice J l.length jc))).alloc (p.blk pj pv)).alloc (zeroR.blk nilV nilV)).heap.size = w.heap.size + 1 + 1 + 1 := by simp
  generalize ((w.alloc (r.blk (.slice A r.map.sp.length cap) (.slice J l.length jc))).alloc (p.blk pj pv)).alloc (zeroR.blk nilV nilV) = w0 at *
  have Hs0 := Lib.hid hs0; clear hs0
  refine wp_region_lit ?_
  refine wpList_load39 rfl (.tmp 2) rfl w.heap.size rfl hX0 ?_
  simp only [Act.put, List.setIfInBounds_toArray, List.set_cons_zero, List.set_cons_succ]
  refine wpList_step (fun K hK => ?_)
  go_simp
  refine hK _ _ ?_
  clear hK K
  refine wpList_store39 rfl (.tmp 5) (.tmp 7) rfl w0.heap.size rfl (r := r) (v := .slice A r.map.sp.length cap) (j := .slice J l.length jc) (r0 := zeroR) (v0 := nilV) (j0 := nilV) rfl rfl rfl (heap_alloc_new w0 _) ?_
  intro w3 hO3 ho3
  simp only [Act.put, List.setIfInBounds_toArray, List.set_cons_zero, List.set_cons_succ]
  have hb3 : Below w0.heap.size w0 w3 := ho3.below (al _) (fun k hk => by omega) (by simp)
  have hs0 := Hs0.out
  have HX3 := Lib.hid (blk_below hb3 (by omega) hX0)
  have HP3 := Lib.hid (blk_below hb3 (by omega) hP0)
  have HR3 := Lib.hid (blk_below hb3 (by omega) hR0)
  have HB3 := Lib.hid (hB0.trans (hb3.mono (by omega)))
  have HO3 := Lib.hid hO3
  have hs3 : w0.heap.size < w3.heap.size := lt_of_some hO3
  clear hP0 hX0 hR0 hB0 hb3 hO3 ho3 hs0
  go_upto_region 2 with fail
  refine wp_region_lit ?_
  refine wpList_load39 rfl (.tmp 2) rfl w.heap.size rfl HX3.out ?_
  simp only [Act.put, List.setIfInBounds_toArray, List.set_cons_zero, List.set_cons_succ]
  refine wpList_step (fun K hK => ?_)
  go_simp
  go_at_call 56
  refine (fresh_any _ A J cap jc r l (HI.out.below HB3.out) hl1 ((HJ.out.below HB3.out (Nat.le_refl _)).more HB3.out.size) hl2).mono ?_
  rintro e w4 ⟨A', cap', J', jc', rfl, hI4, hJ4, hb4⟩
  refine hK _ _ ?_
  clear hK K
  have hX4 := blk_below hb4 (lt_of_some HX3.out) HX3.out
  have HP4 := Lib.hid (blk_below hb4 (lt_of_some HP3.out) HP3.out)
  have HR4 := Lib.hid (blk_below hb4 (lt_of_some HR3.out) HR3.out)
  have HO4 := Lib.hid (blk_below hb4 (lt_of_some HO3.out) HO3.out)
  have HB4 := Lib.hid (HB3.out.trans (hb4.mono HB3.out.size))
  have HS4 := Lib.hid hb4.size
  refine wpList_store39 rfl (.tmp 2) (.tmp 9) rfl w.heap.size rfl (r := r) (v := .slice A' r.map.sp.length cap') (j := .slice J' l.length jc') rfl rfl rfl hX4 ?_
  intro w5 hX5 ho5
  simp only [Act.put, List.setIfInBounds_toArray, List.set_cons_zero, List.set_cons_succ]
  have hs0 := Hs0.out
  have hsz3 : w.heap.size + 1 + 1 + 1 < w3.heap.size := by omega
  have HI5 := Lib.hid (own_only hI4 ho5 (fun k hk he => by have := (hI4.lt k hk).1; omega))
  have HJ5 := Lib.hid (own_only hJ4 ho5 (fun k hk he => by have := (hJ4.lt k hk).1; omega))
  have HP5 := Lib.hid ((ho5.block _ (lt_of_some HP4.out) (by omega)).trans HP4.out)
  have HR5 := Lib.hid ((ho5.block _ (lt_of_some HR4.out) (by omega)).trans HR4.out)
  have HO5 := Lib.hid ((ho5.block _ (lt_of_some HO4.out) (by omega)).trans HO4.out)
  have HB5 := Lib.hid (ho5.below HB4.out (fun k hk => by omega) HB4.out.size)
  have HX5 := Lib.hid hX5
  clear hI4 hJ4 hX4 ho5 hX5
  go_upto_region 3 with fail
  refine wp_region_lit ?_
  refine wpList_load39 rfl (.tmp 5) rfl w0.heap.size rfl HO5.out ?_
  simp only [Act.put, List.setIfInBounds_toArray, List.set_cons_zero, List.set_cons_succ]
  clear hs0
  go_upto_region 20 with (first
    | (go_at_call 26
       refine (Hck.out _ (HI.out.below HB5.out)).mono ?_
       rintro e w6 ⟨rfl, hb6⟩
       have hX6 := blk_below hb6 (lt_of_some HX5.out) HX5.out
       have hP6 := blk_below hb6 (lt_of_some HP5.out) HP5.out
       have hO6 := (rte_cells (blk_below hb6 (lt_of_some HO5.out) HO5.out)).1.2.2.2.2.2
       obtain ⟨⟨c0, c1, c13, c14, c15, c16, clt⟩, ⟨c2, c3, c4, c5, c6, c7, c8, c9, c10, c11, c12⟩, c17, c18, c19⟩ := rte_cells hX6
       obtain ⟨⟨q0, q1, q2, q3, q4, qlt⟩, q5, q6, q7, q8, q9, q10, q11, q12, q13, q14, q15⟩ := rep_cells hP6
       obtain ⟨o16, olt⟩ := hO6
       have f13 := fz_blk hX6 13; have f14 := fz_blk hX6 14; have f15 := fz_blk hX6 15; have f16 := fz_blk hX6 16; have f17 := fz_blk hX6 17; have f18 := fz_blk hX6 18; have f19 := fz_blk hX6 19
       rw [Hd.out] at o16 c16
       have HX6 := Lib.hid hX6
       have HR6 := Lib.hid (blk_below hb6 (lt_of_some HR5.out) HR5.out)
       have HI6 := Lib.hid (own_only HI5.out (Only.of_below (F := fun _ => False) hb6) (fun _ _ h => h))
       have HJ6 := Lib.hid (own_only HJ5.out (Only.of_below (F := fun _ => False) hb6) (fun _ _ h => h))
       have HB6 := Lib.hid (HB5.out.trans (hb6.mono HB5.out.size))
       clear hb6 hX6 hP6))
  have hset : ((w6.setCell ⟨w.heap.size, 14, none⟩ (.int .i64 (r.node % r.nodes + 1))).setCell ⟨w.heap.size, 15, none⟩ (.int .i64 (r.left - 1))).heap[w.heap.size]? = some (Rte.blk { r with node := r.node % r.nodes + 1, left := r.left - 1 } (.slice A' r.map.sp.length cap') (.slice J' l.length jc')) := by
    have := heap_setCell_at (i := 15) (heap_setCell_at (i := 14) HX6.out (.int .i64 (r.node % r.nodes + 1))) (.int .i64 (r.left - 1))
    rw [this]
    simp only [Rte.blk, List.setIfInBounds_toArray, List.set_cons_zero, List.set_cons_succ]
  have hon := (only_setCell w6 ⟨w.heap.size, 14, none⟩ (.int .i64 (r.node % r.nodes + 1))).trans (only_setCell _ ⟨w.heap.size, 15, none⟩ (.int .i64 (r.left - 1))) (fun _ _ h => h)
  have hs0 := Hs0.out
  have hR7 := (hon.block _ (lt_of_some HR6.out) (by show ¬ _ = w.heap.size; omega)).trans HR6.out
  have HI7 := Lib.hid (own_only HI6.out hon (fun k hk he => by have := (HI6.out.lt k hk).1; have he : k = w.heap.size := he; omega))
  have HJ7 := Lib.hid (own_only HJ6.out hon (fun k hk he => by have := (HJ6.out.lt k hk).1; have he : k = w.heap.size := he; omega))
  have HB7 := Lib.hid (hon.below HB6.out (fun k hk => by have hk : k = w.heap.size := hk; omega) HB6.out.size)
  have HS7 := Lib.hid hset; have HR7 := Lib.hid hR7
  clear hset hon hR7 hs0
  refine wp_region_lit ?_
  refine wpList_load39 rfl (.tmp 2) rfl w.heap.size rfl HS7.out ?_
  simp only [Act.put, List.setIfInBounds_toArray, List.set_cons_zero, List.set_cons_succ]
  refine wpList_store39 rfl (.tmp 4) (.tmp 113) rfl (w.heap.size + 1 + 1) rfl (r := { r with node := r.node % r.nodes + 1, left := r.left - 1 }) (v := .slice A' r.map.sp.length cap') (j := .slice J' l.length jc') rfl rfl rfl HR7.out ?_
  intro w9 h9 ho9
  simp only [Act.put, List.setIfInBounds_toArray, List.set_cons_zero, List.set_cons_succ]
  go_wp2
  refine bodyPost_ret (results39_one rfl _ _ (w.heap.size + 1 + 1) rfl h9) rfl ?_
  have hs0 := Hs0.out
  exact ⟨A', cap', J', jc', rfl, own_base (own_only HI7.out ho9 (fun k hk he => by have := (HI7.out.lt k hk).1; omega)) (by omega), own_base (own_only HJ7.out ho9 (fun k hk he => by have := (HJ7.out.lt k hk).1; omega)) (by omega), ho9.below HB7.out (fun k hk => by omega) HB7.out.size⟩
end Go.Proofs.Ytimondpollbdfaa
