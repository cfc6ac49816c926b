/- What is proved: what any reply makes of any way, both programs' Heard, by the data alone. -/
import Derived.Test.YtimondpollbdfaaHeardD
import Derived.Test.YtimondpollbdfaaHeardJ
import Derived.Deep.RegionHeld3
set_option linter.unusedVariables false
set_option linter.unusedSimpArgs false
namespace Go.Proofs.Ytimondpollbdfaa
open Go.RowKit
attribute [local go_sem] Span.val Atl.val Plan.val Rte.val Rep.val

set_option maxRecDepth 100000 in
set_option maxHeartbeats 8000000 in
theorem heard_mapped_last (w : World) (A J B : Option Addr) (cap jc bc : Nat) (r : Rte) (l : List JobD) (p : Rep) (pj : Value) (h : MapIn w A cap r.map) (hn : r.name.size ≤ 9223372036854775807) (hl1 : r.map.sp.length * 56 ≤ 140737488355328) (hj : RowAt w w.heap.size 8 J (l.map JobD.cells)) (hl2 : l.length * 96 ≤ 140737488355328) (hv : tr (RteOk r) = true) (hd : r.done = false) (hB : MapIn w B bc p.map) (k1 : p.kind = 3) (k2 : r.fetch = true) (k3 : tr (MapOk p.map) = true) (k5 : r.left = 1) :
    Calls Try.prog 33 #[r.val (.slice A r.map.sp.length cap) (.slice J l.length jc), p.val pj (.slice B p.map.sp.length bc)] w fun e w' => ∃ A' cap', e = .returned ({ r with map := p.map, fetch := false, node := 1, left := 0, done := true, err := 181, time := 0 }.val (.slice A' p.map.sp.length cap') nilV) ∧ w'.ownsRow w.heap.size 50 5 (.slice A' p.map.sp.length cap') p.map.sp.length (p.map.sp.map Span.cells).flatten ∧ Below w.heap.size w w' := by
  have hok := of_tr hv
  have g1 := hok.1; have g2 := hok.2.1; have g3 := hok.2.2.1; have g4 := hok.2.2.2.1; have g5 := hok.2.2.2.2.1; have g6 := hok.2.2.2.2.2.1
  clear hok
  have hl3 : p.map.sp.length * 56 ≤ 140737488355328 := by have := (of_tr k3).2.2.2.1.1; omega
  have hcB := fun w (h : MapIn w B bc p.map) => check_any w B bc p.map h
  rw [k3] at hcB
  have HCB := Lib.hid hcB; have HMB := Lib.hid hB; clear hcB hB k3
  have K1 := Lib.hid k1; have K2 := Lib.hid k2; clear k1 k2
  have K5 := Lib.hid k5; clear k5
  have hnm := fun w => named_any r.name hn w
  have Hnm := Lib.hid hnm; clear hnm
  have hck := fun w h => rteCheck_any w A cap (.slice J l.length jc) r h hn
  rw [hv] at hck
  have Hck := Lib.hid hck; have HI := Lib.hid h; have HJ := Lib.hid hj; clear hck h hj hv
  have Hd := Lib.hid hd; clear hd
  go_enter Try.func33, Try.ntmps33
  go_upto_region 1 with fail
  have hX0 : (((w.alloc (r.blk (.slice A r.map.sp.length cap) (.slice J l.length jc))).alloc (p.blk pj (.slice B p.map.sp.length bc))).alloc (zeroR.blk nilV nilV)).heap[w.heap.size]? = some (r.blk (.slice A r.map.sp.length cap) (.slice J l.length jc)) := (Below.heap_alloc _ _ _ (by simp; omega)).trans ((Below.heap_alloc _ _ _ (by simp)).trans (heap_alloc_new w _))
  have hR0 : (((w.alloc (r.blk (.slice A r.map.sp.length cap) (.slice J l.length jc))).alloc (p.blk pj (.slice B p.map.sp.length bc))).alloc (zeroR.blk nilV nilV)).heap[w.heap.size + 1 + 1]? = some (zeroR.blk nilV nilV) := by simpa using heap_alloc_new ((w.alloc (r.blk (.slice A r.map.sp.length cap) (.slice J l.length jc))).alloc (p.blk pj (.slice B p.map.sp.length bc))) (zeroR.blk nilV nilV)
  have hP0 : (((w.alloc (r.blk (.slice A r.map.sp.length cap) (.slice J l.length jc))).alloc (p.blk pj (.slice B p.map.sp.length bc))).alloc (zeroR.blk nilV nilV)).heap[w.heap.size + 1]? = some (p.blk pj (.slice B p.map.sp.length bc)) := (Below.heap_alloc _ _ _ (by simp)).trans (heap_second _ _ _)
  have hB0 : Below w.heap.size w (((w.alloc (r.blk (.slice A r.map.sp.length cap) (.slice J l.length jc))).alloc (p.blk pj (.slice B p.map.sp.length bc))).alloc (zeroR.blk nilV nilV)) := al3 _ _ _
  change Code.wp _ _ _ _ (((w.alloc (r.blk (.slice A r.map.sp.length cap) (.slice J l.length jc))).alloc (p.blk pj (.slice B p.map.sp.length bc))).alloc (zeroR.blk nilV nilV))
  have hs0 : (((w.alloc (r.blk (.slice A r.map.sp.length cap) (.slice J l.length jc))).alloc (p.blk pj (.slice B p.map.sp.length bc))).alloc (zeroR.blk nilV nilV)).heap.size = w.heap.size + 1 + 1 + 1 := by simp
  generalize ((w.alloc (r.blk (.slice A r.map.sp.length cap) (.slice J l.length jc))).alloc (p.blk pj (.slice B p.map.sp.length bc))).alloc (zeroR.blk nilV nilV) = w0 at *
  have Hs0 := Lib.hid hs0; clear hs0
  refine wp_region_lit ?_
  refine wpList_load39 rfl (.tmp 2) rfl w.heap.size rfl hX0 ?_
  simp only [Act.put, List.setIfInBounds_toArray, List.set_cons_zero, List.set_cons_succ]
  refine wpList_step (fun K hK => ?_)
  go_simp
  refine hK _ _ ?_
  clear hK K
  refine wpList_store39 rfl (.tmp 5) (.tmp 7) rfl w0.heap.size rfl (r := r) (v := .slice A r.map.sp.length cap) (j := .slice J l.length jc) (r0 := zeroR) (v0 := nilV) (j0 := nilV) rfl rfl rfl (heap_alloc_new w0 _) ?_
  intro w3 hO3 ho3
  simp only [Act.put, List.setIfInBounds_toArray, List.set_cons_zero, List.set_cons_succ]
  have hb3 : Below w0.heap.size w0 w3 := ho3.below (al _) (fun k hk => by omega) (by simp)
  have hs0 := Hs0.out
  have HX3 := Lib.hid (blk_below hb3 (by omega) hX0)
  have HP3 := Lib.hid (blk_below hb3 (by omega) hP0)
  have HR3 := Lib.hid (blk_below hb3 (by omega) hR0)
  have HB3 := Lib.hid (hB0.trans (hb3.mono (by omega)))
  have HO3 := Lib.hid hO3
  have hs3 : w0.heap.size < w3.heap.size := lt_of_some hO3
  clear hP0 hX0 hR0 hB0 hb3 hO3 ho3 hs0
  go_upto_region 2 with fail
  refine wp_region_lit ?_
  refine wpList_load39 rfl (.tmp 2) rfl w.heap.size rfl HX3.out ?_
  simp only [Act.put, List.setIfInBounds_toArray, List.set_cons_zero, List.set_cons_succ]
  refine wpList_step (fun K hK => ?_)
  go_simp
  go_at_call 56
  refine (fresh_any _ A J cap jc r l (HI.out.below HB3.out) hl1 ((HJ.out.below HB3.out (Nat.le_refl _)).more HB3.out.size) hl2).mono ?_
  rintro e w4 ⟨A', cap', J', jc', rfl, hI4, hJ4, hb4⟩
  refine hK _ _ ?_
  clear hK K
  have hX4 := blk_below hb4 (lt_of_some HX3.out) HX3.out
  have HP4 := Lib.hid (blk_below hb4 (lt_of_some HP3.out) HP3.out)
  have HR4 := Lib.hid (blk_below hb4 (lt_of_some HR3.out) HR3.out)
  have HO4 := Lib.hid (blk_below hb4 (lt_of_some HO3.out) HO3.out)
  have HB4 := Lib.hid (HB3.out.trans (hb4.mono HB3.out.size))
  have HS4 := Lib.hid hb4.size
  refine wpList_store39 rfl (.tmp 2) (.tmp 9) rfl w.heap.size rfl (r := r) (v := .slice A' r.map.sp.length cap') (j := .slice J' l.length jc') rfl rfl rfl hX4 ?_
  intro w5 hX5 ho5
  simp only [Act.put, List.setIfInBounds_toArray, List.set_cons_zero, List.set_cons_succ]
  have hs0 := Hs0.out
  have hsz3 : w.heap.size + 1 + 1 + 1 < w3.heap.size := by omega
  have HI5 := Lib.hid (own_only hI4 ho5 (fun k hk he => by have := (hI4.lt k hk).1; omega))
  have HJ5 := Lib.hid (own_only hJ4 ho5 (fun k hk he => by have := (hJ4.lt k hk).1; omega))
  have HP5 := Lib.hid ((ho5.block _ (lt_of_some HP4.out) (by omega)).trans HP4.out)
  have HR5 := Lib.hid ((ho5.block _ (lt_of_some HR4.out) (by omega)).trans HR4.out)
  have HO5 := Lib.hid ((ho5.block _ (lt_of_some HO4.out) (by omega)).trans HO4.out)
  have HB5 := Lib.hid (ho5.below HB4.out (fun k hk => by omega) HB4.out.size)
  have HX5 := Lib.hid hX5
  clear hI4 hJ4 hX4 ho5 hX5
  go_upto_region 3 with fail
  refine wp_region_lit ?_
  refine wpList_load39 rfl (.tmp 5) rfl w0.heap.size rfl HO5.out ?_
  simp only [Act.put, List.setIfInBounds_toArray, List.set_cons_zero, List.set_cons_succ]
  clear hs0
  go_upto_region 14 with (first
    | (go_at_call 26
       refine (Hck.out _ (HI.out.below HB5.out)).mono ?_
       rintro e w6 ⟨rfl, hb6⟩
       have hX6 := blk_below hb6 (lt_of_some HX5.out) HX5.out
       have hP6 := blk_below hb6 (lt_of_some HP5.out) HP5.out
       have hO6 := (rte_cells (blk_below hb6 (lt_of_some HO5.out) HO5.out)).1.2.2.2.2.2
       obtain ⟨⟨c0, c1, c13, c14, c15, c16, clt⟩, ⟨c2, c3, c4, c5, c6, c7, c8, c9, c10, c11, c12⟩, c17, c18, c19⟩ := rte_cells hX6
       obtain ⟨⟨q0, q1, q2, q3, q4, qlt⟩, q5, q6, q7, q8, q9, q10, q11, q12, q13, q14, q15⟩ := rep_cells hP6
       obtain ⟨o16, olt⟩ := hO6
       have f13 := fz_blk hX6 13; have f14 := fz_blk hX6 14; have f15 := fz_blk hX6 15; have f16 := fz_blk hX6 16; have f17 := fz_blk hX6 17; have f18 := fz_blk hX6 18; have f19 := fz_blk hX6 19
       rw [Hd.out] at o16 c16
       rw [K2.out] at c13
       rw [K5.out] at c15
       rw [K1.out] at q0
       have hM6 : MapCells w.heap.size (w.heap.size + 1) r.name p.map (.slice B p.map.sp.length bc) w6 := ⟨c1, q5, q6, q7, q8, q9, q10, q11, q12, q13, q14, q15⟩
       have HM6 := Lib.hid hM6; clear hM6
       have hs6 : w.heap.size + 1 + 1 < w6.heap.size := lt_of_some (blk_below hb6 (lt_of_some HR5.out) HR5.out)
       have HX6 := Lib.hid hX6
       have HR6 := Lib.hid (blk_below hb6 (lt_of_some HR5.out) HR5.out)
       have HI6 := Lib.hid (own_only HI5.out (Only.of_below (F := fun _ => False) hb6) (fun _ _ h => h))
       have HJ6 := Lib.hid (own_only HJ5.out (Only.of_below (F := fun _ => False) hb6) (fun _ _ h => h))
       have HB6 := Lib.hid (HB5.out.trans (hb6.mono HB5.out.size))
       have k1 := K1.out
       clear hb6 hX6 hP6)
    | (go_at_call 29
       refine (HCB.out _ (HMB.out.below HB6.out)).mono ?_
       rintro e w7 ⟨rfl, hb7⟩
       have hX7 := blk_below hb7 (lt_of_some HX6.out) HX6.out
       have hm7 := HM6.out.below hb7 (by omega) (by omega)
       have hm7d := hm7.below (drewB w7) (by have := hb7.size; omega) (by have := hb7.size; omega)
       have HMd := Lib.hid (show w7.drew.cell? ⟨w.heap.size, 1, none⟩ = some (.string r.name) ∧ w7.drew.cell? ⟨w.heap.size + 1, 5, none⟩ = some (.int .i64 p.map.groups) ∧ w7.drew.cell? ⟨w.heap.size + 1, 6, none⟩ = some (.int .i64 p.map.last) ∧ w7.drew.cell? ⟨w.heap.size + 1, 7, none⟩ = some (.slice B p.map.sp.length bc) ∧ w7.drew.cell? ⟨w.heap.size + 1, 8, none⟩ = some (.int .i64 p.map.plan.kind) ∧ w7.drew.cell? ⟨w.heap.size + 1, 9, none⟩ = some (.int .i64 p.map.plan.phase) ∧ w7.drew.cell? ⟨w.heap.size + 1, 10, none⟩ = some (.int .i64 p.map.plan.shard) ∧ w7.drew.cell? ⟨w.heap.size + 1, 11, none⟩ = some (.int .i64 p.map.plan.other) ∧ w7.drew.cell? ⟨w.heap.size + 1, 12, none⟩ = some (.int .i64 p.map.plan.group) ∧ w7.drew.cell? ⟨w.heap.size + 1, 13, none⟩ = some (.int .i64 p.map.plan.past) ∧ w7.drew.cell? ⟨w.heap.size + 1, 14, none⟩ = some (.int .i64 p.map.plan.epoch) ∧ w7.drew.cell? ⟨w.heap.size + 1, 15, none⟩ = some (.string p.map.plan.key) from hm7d)
       have HX7 := Lib.hid hX7
       have HR7 := Lib.hid (blk_below hb7 (lt_of_some HR6.out) HR6.out)
       have HI7 := Lib.hid (own_only HI6.out (Only.of_below (F := fun _ => False) hb7) (fun _ _ h => h))
       have HJ7 := Lib.hid (own_only HJ6.out (Only.of_below (F := fun _ => False) hb7) (fun _ _ h => h))
       have HB7 := Lib.hid (HB6.out.trans (hb7.mono HB6.out.size))
       have hs7 : w.heap.size + 1 + 1 < w7.heap.size := lt_of_some HR7.out
       clear hb7 hX7 hm7 hm7d))
  go_region_held3 (fun w' => w'.cell? ⟨w.heap.size, 1, none⟩ = some (.string r.name) ∧ w'.cell? ⟨w.heap.size + 1, 5, none⟩ = some (.int .i64 p.map.groups) ∧ w'.cell? ⟨w.heap.size + 1, 6, none⟩ = some (.int .i64 p.map.last) ∧ w'.cell? ⟨w.heap.size + 1, 7, none⟩ = some (.slice B p.map.sp.length bc) ∧ w'.cell? ⟨w.heap.size + 1, 8, none⟩ = some (.int .i64 p.map.plan.kind) ∧ w'.cell? ⟨w.heap.size + 1, 9, none⟩ = some (.int .i64 p.map.plan.phase) ∧ w'.cell? ⟨w.heap.size + 1, 10, none⟩ = some (.int .i64 p.map.plan.shard) ∧ w'.cell? ⟨w.heap.size + 1, 11, none⟩ = some (.int .i64 p.map.plan.other) ∧ w'.cell? ⟨w.heap.size + 1, 12, none⟩ = some (.int .i64 p.map.plan.group) ∧ w'.cell? ⟨w.heap.size + 1, 13, none⟩ = some (.int .i64 p.map.plan.past) ∧ w'.cell? ⟨w.heap.size + 1, 14, none⟩ = some (.int .i64 p.map.plan.epoch) ∧ w'.cell? ⟨w.heap.size + 1, 15, none⟩ = some (.string p.map.plan.key))
    (first | with_reducible exact HMd.out | with_reducible exact HM8.out | with_reducible exact HM9.out | with_reducible exact HMp.out | with_reducible exact HMq.out | with_reducible exact HMr.out)
    (first
    | (go_at_call 48
       refine (rcopied_any _ B bc p.map ((HMB.out.below HB7.out).below (drewB w7)) hl3).mono ?_
       rintro e w8 ⟨A2, cap2, rfl, ho8, hI8, hb8'⟩
       have hb8 : Below w7.heap.size w7 w8 := (drewB w7).trans hb8'
       have HO8 := Lib.hid ho8
       have hm8 : MapCells w.heap.size (w.heap.size + 1) r.name p.map (.slice B p.map.sp.length bc) w8 := MapCells.below (w := w7.drew) HMd.out hb8' (by show _ < w7.heap.size; omega) (by show _ < w7.heap.size; omega)
       have HM8 := Lib.hid (show w8.cell? ⟨w.heap.size, 1, none⟩ = some (.string r.name) ∧ w8.cell? ⟨w.heap.size + 1, 5, none⟩ = some (.int .i64 p.map.groups) ∧ w8.cell? ⟨w.heap.size + 1, 6, none⟩ = some (.int .i64 p.map.last) ∧ w8.cell? ⟨w.heap.size + 1, 7, none⟩ = some (.slice B p.map.sp.length bc) ∧ w8.cell? ⟨w.heap.size + 1, 8, none⟩ = some (.int .i64 p.map.plan.kind) ∧ w8.cell? ⟨w.heap.size + 1, 9, none⟩ = some (.int .i64 p.map.plan.phase) ∧ w8.cell? ⟨w.heap.size + 1, 10, none⟩ = some (.int .i64 p.map.plan.shard) ∧ w8.cell? ⟨w.heap.size + 1, 11, none⟩ = some (.int .i64 p.map.plan.other) ∧ w8.cell? ⟨w.heap.size + 1, 12, none⟩ = some (.int .i64 p.map.plan.group) ∧ w8.cell? ⟨w.heap.size + 1, 13, none⟩ = some (.int .i64 p.map.plan.past) ∧ w8.cell? ⟨w.heap.size + 1, 14, none⟩ = some (.int .i64 p.map.plan.epoch) ∧ w8.cell? ⟨w.heap.size + 1, 15, none⟩ = some (.string p.map.plan.key) from hm8)
       have HX8 := Lib.hid (blk_below hb8 (lt_of_some HX7.out) HX7.out)
       have HR8 := Lib.hid (blk_below hb8 (lt_of_some HR7.out) HR7.out)
       have HI8 := Lib.hid (own_only HI7.out (Only.of_below (F := fun _ => False) hb8) (fun _ _ h => h))
       have HJ8 := Lib.hid (own_only HJ7.out (Only.of_below (F := fun _ => False) hb8) (fun _ _ h => h))
       have HB8 := Lib.hid (HB7.out.trans (hb8.mono HB7.out.size))
       have hs8 : w.heap.size + 1 + 1 < w8.heap.size := lt_of_some HR8.out
       have Hs78 := Lib.hid hb8.size
       clear ho8 hI8 hb8 hb8' hm8)
    | (go_at_call 47
       refine (Hnm.out _).mono ?_
       rintro e w9 ⟨rfl, hb9⟩
       have hX9 := blk_below hb9 (lt_of_some HX8.out) HX8.out
       have hs9 : w.heap.size + 1 + 1 < w9.heap.size := by have := hb9.size; omega
       have hm9 : MapCells w.heap.size (w.heap.size + 1) r.name p.map (.slice B p.map.sp.length bc) w9 := MapCells.below (w := w8) HM8.out hb9 (by omega) (by omega)
       have HM9 := Lib.hid (show w9.cell? ⟨w.heap.size, 1, none⟩ = some (.string r.name) ∧ w9.cell? ⟨w.heap.size + 1, 5, none⟩ = some (.int .i64 p.map.groups) ∧ w9.cell? ⟨w.heap.size + 1, 6, none⟩ = some (.int .i64 p.map.last) ∧ w9.cell? ⟨w.heap.size + 1, 7, none⟩ = some (.slice B p.map.sp.length bc) ∧ w9.cell? ⟨w.heap.size + 1, 8, none⟩ = some (.int .i64 p.map.plan.kind) ∧ w9.cell? ⟨w.heap.size + 1, 9, none⟩ = some (.int .i64 p.map.plan.phase) ∧ w9.cell? ⟨w.heap.size + 1, 10, none⟩ = some (.int .i64 p.map.plan.shard) ∧ w9.cell? ⟨w.heap.size + 1, 11, none⟩ = some (.int .i64 p.map.plan.other) ∧ w9.cell? ⟨w.heap.size + 1, 12, none⟩ = some (.int .i64 p.map.plan.group) ∧ w9.cell? ⟨w.heap.size + 1, 13, none⟩ = some (.int .i64 p.map.plan.past) ∧ w9.cell? ⟨w.heap.size + 1, 14, none⟩ = some (.int .i64 p.map.plan.epoch) ∧ w9.cell? ⟨w.heap.size + 1, 15, none⟩ = some (.string p.map.plan.key) from hm9)
       obtain ⟨⟨d0, d1, d13, d14, d15, d16, dlt⟩, ⟨d2, d3, d4, d5, d6, d7, d8, d9, d10, d11, d12⟩, d17, d18, d19⟩ := rte_cells hX9
       obtain ⟨e2, e3, e4, e5, e6, e7, e8, e9, e10, e11, e12, e13⟩ := rte_fz hX9
       have e14 := fz_blk hX9 14; have e15 := fz_blk hX9 15; have e16 := fz_blk hX9 16; have e17 := fz_blk hX9 17; have e18 := fz_blk hX9 18; have e19 := fz_blk hX9 19
       have hmp := hm9.put (by omega) (by omega) p.map (.slice A2 p.map.sp.length cap2)
       have hmq := (hmp.set (i := 13) (u := .bool (!named r.name)) (by omega) (by have := (putMap_only w9 w.heap.size p.map (.slice A2 p.map.sp.length cap2)).size; omega) (by decide))
       have hmr := (hmq.set (i := 14) (u := .int .i64 1) (by omega) (by have := ((putMap_only w9 w.heap.size p.map (.slice A2 p.map.sp.length cap2)).trans (only_setCell _ ⟨w.heap.size, 13, none⟩ (.bool (!named r.name))) (fun _ _ h => h)).size; omega) (by decide))
       have HMp := Lib.hid (show (((((((((((w9.setCell ⟨w.heap.size, 2, none⟩ (.int .i64 p.map.groups)).setCell ⟨w.heap.size, 3, none⟩ (.int .i64 p.map.last)).setCell ⟨w.heap.size, 4, none⟩ (.slice A2 p.map.sp.length cap2)).setCell ⟨w.heap.size, 5, none⟩ (.int .i64 p.map.plan.kind)).setCell ⟨w.heap.size, 6, none⟩ (.int .i64 p.map.plan.phase)).setCell ⟨w.heap.size, 7, none⟩ (.int .i64 p.map.plan.shard)).setCell ⟨w.heap.size, 8, none⟩ (.int .i64 p.map.plan.other)).setCell ⟨w.heap.size, 9, none⟩ (.int .i64 p.map.plan.group)).setCell ⟨w.heap.size, 10, none⟩ (.int .i64 p.map.plan.past)).setCell ⟨w.heap.size, 11, none⟩ (.int .i64 p.map.plan.epoch)).setCell ⟨w.heap.size, 12, none⟩ (.string p.map.plan.key)).cell? ⟨w.heap.size, 1, none⟩ = some (.string r.name) ∧ (((((((((((w9.setCell ⟨w.heap.size, 2, none⟩ (.int .i64 p.map.groups)).setCell ⟨w.heap.size, 3, none⟩ (.int .i64 p.map.last)).setCell ⟨w.heap.size, 4, none⟩ (.slice A2 p.map.sp.length cap2)).setCell ⟨w.heap.size, 5, none⟩ (.int .i64 p.map.plan.kind)).setCell ⟨w.heap.size, 6, none⟩ (.int .i64 p.map.plan.phase)).setCell ⟨w.heap.size, 7, none⟩ (.int .i64 p.map.plan.shard)).setCell ⟨w.heap.size, 8, none⟩ (.int .i64 p.map.plan.other)).setCell ⟨w.heap.size, 9, none⟩ (.int .i64 p.map.plan.group)).setCell ⟨w.heap.size, 10, none⟩ (.int .i64 p.map.plan.past)).setCell ⟨w.heap.size, 11, none⟩ (.int .i64 p.map.plan.epoch)).setCell ⟨w.heap.size, 12, none⟩ (.string p.map.plan.key)).cell? ⟨w.heap.size + 1, 5, none⟩ = some (.int .i64 p.map.groups) ∧ (((((((((((w9.setCell ⟨w.heap.size, 2, none⟩ (.int .i64 p.map.groups)).setCell ⟨w.heap.size, 3, none⟩ (.int .i64 p.map.last)).setCell ⟨w.heap.size, 4, none⟩ (.slice A2 p.map.sp.length cap2)).setCell ⟨w.heap.size, 5, none⟩ (.int .i64 p.map.plan.kind)).setCell ⟨w.heap.size, 6, none⟩ (.int .i64 p.map.plan.phase)).setCell ⟨w.heap.size, 7, none⟩ (.int .i64 p.map.plan.shard)).setCell ⟨w.heap.size, 8, none⟩ (.int .i64 p.map.plan.other)).setCell ⟨w.heap.size, 9, none⟩ (.int .i64 p.map.plan.group)).setCell ⟨w.heap.size, 10, none⟩ (.int .i64 p.map.plan.past)).setCell ⟨w.heap.size, 11, none⟩ (.int .i64 p.map.plan.epoch)).setCell ⟨w.heap.size, 12, none⟩ (.string p.map.plan.key)).cell? ⟨w.heap.size + 1, 6, none⟩ = some (.int .i64 p.map.last) ∧ (((((((((((w9.setCell ⟨w.heap.size, 2, none⟩ (.int .i64 p.map.groups)).setCell ⟨w.heap.size, 3, none⟩ (.int .i64 p.map.last)).setCell ⟨w.heap.size, 4, none⟩ (.slice A2 p.map.sp.length cap2)).setCell ⟨w.heap.size, 5, none⟩ (.int .i64 p.map.plan.kind)).setCell ⟨w.heap.size, 6, none⟩ (.int .i64 p.map.plan.phase)).setCell ⟨w.heap.size, 7, none⟩ (.int .i64 p.map.plan.shard)).setCell ⟨w.heap.size, 8, none⟩ (.int .i64 p.map.plan.other)).setCell ⟨w.heap.size, 9, none⟩ (.int .i64 p.map.plan.group)).setCell ⟨w.heap.size, 10, none⟩ (.int .i64 p.map.plan.past)).setCell ⟨w.heap.size, 11, none⟩ (.int .i64 p.map.plan.epoch)).setCell ⟨w.heap.size, 12, none⟩ (.string p.map.plan.key)).cell? ⟨w.heap.size + 1, 7, none⟩ = some (.slice B p.map.sp.length bc) ∧ (((((((((((w9.setCell ⟨w.heap.size, 2, none⟩ (.int .i64 p.map.groups)).setCell ⟨w.heap.size, 3, none⟩ (.int .i64 p.map.last)).setCell ⟨w.heap.size, 4, none⟩ (.slice A2 p.map.sp.length cap2)).setCell ⟨w.heap.size, 5, none⟩ (.int .i64 p.map.plan.kind)).setCell ⟨w.heap.size, 6, none⟩ (.int .i64 p.map.plan.phase)).setCell ⟨w.heap.size, 7, none⟩ (.int .i64 p.map.plan.shard)).setCell ⟨w.heap.size, 8, none⟩ (.int .i64 p.map.plan.other)).setCell ⟨w.heap.size, 9, none⟩ (.int .i64 p.map.plan.group)).setCell ⟨w.heap.size, 10, none⟩ (.int .i64 p.map.plan.past)).setCell ⟨w.heap.size, 11, none⟩ (.int .i64 p.map.plan.epoch)).setCell ⟨w.heap.size, 12, none⟩ (.string p.map.plan.key)).cell? ⟨w.heap.size + 1, 8, none⟩ = some (.int .i64 p.map.plan.kind) ∧ (((((((((((w9.setCell ⟨w.heap.size, 2, none⟩ (.int .i64 p.map.groups)).setCell ⟨w.heap.size, 3, none⟩ (.int .i64 p.map.last)).setCell ⟨w.heap.size, 4, none⟩ (.slice A2 p.map.sp.length cap2)).setCell ⟨w.heap.size, 5, none⟩ (.int .i64 p.map.plan.kind)).setCell ⟨w.heap.size, 6, none⟩ (.int .i64 p.map.plan.phase)).setCell ⟨w.heap.size, 7, none⟩ (.int .i64 p.map.plan.shard)).setCell ⟨w.heap.size, 8, none⟩ (.int .i64 p.map.plan.other)).setCell ⟨w.heap.size, 9, none⟩ (.int .i64 p.map.plan.group)).setCell ⟨w.heap.size, 10, none⟩ (.int .i64 p.map.plan.past)).setCell ⟨w.heap.size, 11, none⟩ (.int .i64 p.map.plan.epoch)).setCell ⟨w.heap.size, 12, none⟩ (.string p.map.plan.key)).cell? ⟨w.heap.size + 1, 9, none⟩ = some (.int .i64 p.map.plan.phase) ∧ (((((((((((w9.setCell ⟨w.heap.size, 2, none⟩ (.int .i64 p.map.groups)).setCell ⟨w.heap.size, 3, none⟩ (.int .i64 p.map.last)).setCell ⟨w.heap.size, 4, none⟩ (.slice A2 p.map.sp.length cap2)).setCell ⟨w.heap.size, 5, none⟩ (.int .i64 p.map.plan.kind)).setCell ⟨w.heap.size, 6, none⟩ (.int .i64 p.map.plan.phase)).setCell ⟨w.heap.size, 7, none⟩ (.int .i64 p.map.plan.shard)).setCell ⟨w.heap.size, 8, none⟩ (.int .i64 p.map.plan.other)).setCell ⟨w.heap.size, 9, none⟩ (.int .i64 p.map.plan.group)).setCell ⟨w.heap.size, 10, none⟩ (.int .i64 p.map.plan.past)).setCell ⟨w.heap.size, 11, none⟩ (.int .i64 p.map.plan.epoch)).setCell ⟨w.heap.size, 12, none⟩ (.string p.map.plan.key)).cell? ⟨w.heap.size + 1, 10, none⟩ = some (.int .i64 p.map.plan.shard) ∧ (((((((((((w9.setCell ⟨w.heap.size, 2, none⟩ (.int .i64 p.map.groups)).setCell ⟨w.heap.size, 3, none⟩ (.int .i64 p.map.last)).setCell ⟨w.heap.size, 4, none⟩ (.slice A2 p.map.sp.length cap2)).setCell ⟨w.heap.size, 5, none⟩ (.int .i64 p.map.plan.kind)).setCell ⟨w.heap.size, 6, none⟩ (.int .i64 p.map.plan.phase)).setCell ⟨w.heap.size, 7, none⟩ (.int .i64 p.map.plan.shard)).setCell ⟨w.heap.size, 8, none⟩ (.int .i64 p.map.plan.other)).setCell ⟨w.heap.size, 9, none⟩ (.int .i64 p.map.plan.group)).setCell ⟨w.heap.size, 10, none⟩ (.int .i64 p.map.plan.past)).setCell ⟨w.heap.size, 11, none⟩ (.int .i64 p.map.plan.epoch)).setCell ⟨w.heap.size, 12, none⟩ (.string p.map.plan.key)).cell? ⟨w.heap.size + 1, 11, none⟩ = some (.int .i64 p.map.plan.other) ∧ (((((((((((w9.setCell ⟨w.heap.size, 2, none⟩ (.int .i64 p.map.groups)).setCell ⟨w.heap.size, 3, none⟩ (.int .i64 p.map.last)).setCell ⟨w.heap.size, 4, none⟩ (.slice A2 p.map.sp.length cap2)).setCell ⟨w.heap.size, 5, none⟩ (.int .i64 p.map.plan.kind)).setCell ⟨w.heap.size, 6, none⟩ (.int .i64 p.map.plan.phase)).setCell ⟨w.heap.size, 7, none⟩ (.int .i64 p.map.plan.shard)).setCell ⟨w.heap.size, 8, none⟩ (.int .i64 p.map.plan.other)).setCell ⟨w.heap.size, 9, none⟩ (.int .i64 p.map.plan.group)).setCell ⟨w.heap.size, 10, none⟩ (.int .i64 p.map.plan.past)).setCell ⟨w.heap.size, 11, none⟩ (.int .i64 p.map.plan.epoch)).setCell ⟨w.heap.size, 12, none⟩ (.string p.map.plan.key)).cell? ⟨w.heap.size + 1, 12, none⟩ = some (.int .i64 p.map.plan.group) ∧ (((((((((((w9.setCell ⟨w.heap.size, 2, none⟩ (.int .i64 p.map.groups)).setCell ⟨w.heap.size, 3, none⟩ (.int .i64 p.map.last)).setCell ⟨w.heap.size, 4, none⟩ (.slice A2 p.map.sp.length cap2)).setCell ⟨w.heap.size, 5, none⟩ (.int .i64 p.map.plan.kind)).setCell ⟨w.heap.size, 6, none⟩ (.int .i64 p.map.plan.phase)).setCell ⟨w.heap.size, 7, none⟩ (.int .i64 p.map.plan.shard)).setCell ⟨w.heap.size, 8, none⟩ (.int .i64 p.map.plan.other)).setCell ⟨w.heap.size, 9, none⟩ (.int .i64 p.map.plan.group)).setCell ⟨w.heap.size, 10, none⟩ (.int .i64 p.map.plan.past)).setCell ⟨w.heap.size, 11, none⟩ (.int .i64 p.map.plan.epoch)).setCell ⟨w.heap.size, 12, none⟩ (.string p.map.plan.key)).cell? ⟨w.heap.size + 1, 13, none⟩ = some (.int .i64 p.map.plan.past) ∧ (((((((((((w9.setCell ⟨w.heap.size, 2, none⟩ (.int .i64 p.map.groups)).setCell ⟨w.heap.size, 3, none⟩ (.int .i64 p.map.last)).setCell ⟨w.heap.size, 4, none⟩ (.slice A2 p.map.sp.length cap2)).setCell ⟨w.heap.size, 5, none⟩ (.int .i64 p.map.plan.kind)).setCell ⟨w.heap.size, 6, none⟩ (.int .i64 p.map.plan.phase)).setCell ⟨w.heap.size, 7, none⟩ (.int .i64 p.map.plan.shard)).setCell ⟨w.heap.size, 8, none⟩ (.int .i64 p.map.plan.other)).setCell ⟨w.heap.size, 9, none⟩ (.int .i64 p.map.plan.group)).setCell ⟨w.heap.size, 10, none⟩ (.int .i64 p.map.plan.past)).setCell ⟨w.heap.size, 11, none⟩ (.int .i64 p.map.plan.epoch)).setCell ⟨w.heap.size, 12, none⟩ (.string p.map.plan.key)).cell? ⟨w.heap.size + 1, 14, none⟩ = some (.int .i64 p.map.plan.epoch) ∧ (((((((((((w9.setCell ⟨w.heap.size, 2, none⟩ (.int .i64 p.map.groups)).setCell ⟨w.heap.size, 3, none⟩ (.int .i64 p.map.last)).setCell ⟨w.heap.size, 4, none⟩ (.slice A2 p.map.sp.length cap2)).setCell ⟨w.heap.size, 5, none⟩ (.int .i64 p.map.plan.kind)).setCell ⟨w.heap.size, 6, none⟩ (.int .i64 p.map.plan.phase)).setCell ⟨w.heap.size, 7, none⟩ (.int .i64 p.map.plan.shard)).setCell ⟨w.heap.size, 8, none⟩ (.int .i64 p.map.plan.other)).setCell ⟨w.heap.size, 9, none⟩ (.int .i64 p.map.plan.group)).setCell ⟨w.heap.size, 10, none⟩ (.int .i64 p.map.plan.past)).setCell ⟨w.heap.size, 11, none⟩ (.int .i64 p.map.plan.epoch)).setCell ⟨w.heap.size, 12, none⟩ (.string p.map.plan.key)).cell? ⟨w.heap.size + 1, 15, none⟩ = some (.string p.map.plan.key) from hmp)
       have HMq := Lib.hid (show ((((((((((((w9.setCell ⟨w.heap.size, 2, none⟩ (.int .i64 p.map.groups)).setCell ⟨w.heap.size, 3, none⟩ (.int .i64 p.map.last)).setCell ⟨w.heap.size, 4, none⟩ (.slice A2 p.map.sp.length cap2)).setCell ⟨w.heap.size, 5, none⟩ (.int .i64 p.map.plan.kind)).setCell ⟨w.heap.size, 6, none⟩ (.int .i64 p.map.plan.phase)).setCell ⟨w.heap.size, 7, none⟩ (.int .i64 p.map.plan.shard)).setCell ⟨w.heap.size, 8, none⟩ (.int .i64 p.map.plan.other)).setCell ⟨w.heap.size, 9, none⟩ (.int .i64 p.map.plan.group)).setCell ⟨w.heap.size, 10, none⟩ (.int .i64 p.map.plan.past)).setCell ⟨w.heap.size, 11, none⟩ (.int .i64 p.map.plan.epoch)).setCell ⟨w.heap.size, 12, none⟩ (.string p.map.plan.key)).setCell ⟨w.heap.size, 13, none⟩ (.bool (!named r.name))).cell? ⟨w.heap.size, 1, none⟩ = some (.string r.name) ∧ ((((((((((((w9.setCell ⟨w.heap.size, 2, none⟩ (.int .i64 p.map.groups)).setCell ⟨w.heap.size, 3, none⟩ (.int .i64 p.map.last)).setCell ⟨w.heap.size, 4, none⟩ (.slice A2 p.map.sp.length cap2)).setCell ⟨w.heap.size, 5, none⟩ (.int .i64 p.map.plan.kind)).setCell ⟨w.heap.size, 6, none⟩ (.int .i64 p.map.plan.phase)).setCell ⟨w.heap.size, 7, none⟩ (.int .i64 p.map.plan.shard)).setCell ⟨w.heap.size, 8, none⟩ (.int .i64 p.map.plan.other)).setCell ⟨w.heap.size, 9, none⟩ (.int .i64 p.map.plan.group)).setCell ⟨w.heap.size, 10, none⟩ (.int .i64 p.map.plan.past)).setCell ⟨w.heap.size, 11, none⟩ (.int .i64 p.map.plan.epoch)).setCell ⟨w.heap.size, 12, none⟩ (.string p.map.plan.key)).setCell ⟨w.heap.size, 13, none⟩ (.bool (!named r.name))).cell? ⟨w.heap.size + 1, 5, none⟩ = some (.int .i64 p.map.groups) ∧ ((((((((((((w9.setCell ⟨w.heap.size, 2, none⟩ (.int .i64 p.map.groups)).setCell ⟨w.heap.size, 3, none⟩ (.int .i64 p.map.last)).setCell ⟨w.heap.size, 4, none⟩ (.slice A2 p.map.sp.length cap2)).setCell ⟨w.heap.size, 5, none⟩ (.int .i64 p.map.plan.kind)).setCell ⟨w.heap.size, 6, none⟩ (.int .i64 p.map.plan.phase)).setCell ⟨w.heap.size, 7, none⟩ (.int .i64 p.map.plan.shard)).setCell ⟨w.heap.size, 8, none⟩ (.int .i64 p.map.plan.other)).setCell ⟨w.heap.size, 9, none⟩ (.int .i64 p.map.plan.group)).setCell ⟨w.heap.size, 10, none⟩ (.int .i64 p.map.plan.past)).setCell ⟨w.heap.size, 11, none⟩ (.int .i64 p.map.plan.epoch)).setCell ⟨w.heap.size, 12, none⟩ (.string p.map.plan.key)).setCell ⟨w.heap.size, 13, none⟩ (.bool (!named r.name))).cell? ⟨w.heap.size + 1, 6, none⟩ = some (.int .i64 p.map.last) ∧ ((((((((((((w9.setCell ⟨w.heap.size, 2, none⟩ (.int .i64 p.map.groups)).setCell ⟨w.heap.size, 3, none⟩ (.int .i64 p.map.last)).setCell ⟨w.heap.size, 4, none⟩ (.slice A2 p.map.sp.length cap2)).setCell ⟨w.heap.size, 5, none⟩ (.int .i64 p.map.plan.kind)).setCell ⟨w.heap.size, 6, none⟩ (.int .i64 p.map.plan.phase)).setCell ⟨w.heap.size, 7, none⟩ (.int .i64 p.map.plan.shard)).setCell ⟨w.heap.size, 8, none⟩ (.int .i64 p.map.plan.other)).setCell ⟨w.heap.size, 9, none⟩ (.int .i64 p.map.plan.group)).setCell ⟨w.heap.size, 10, none⟩ (.int .i64 p.map.plan.past)).setCell ⟨w.heap.size, 11, none⟩ (.int .i64 p.map.plan.epoch)).setCell ⟨w.heap.size, 12, none⟩ (.string p.map.plan.key)).setCell ⟨w.heap.size, 13, none⟩ (.bool (!named r.name))).cell? ⟨w.heap.size + 1, 7, none⟩ = some (.slice B p.map.sp.length bc) ∧ ((((((((((((w9.setCell ⟨w.heap.size, 2, none⟩ (.int .i64 p.map.groups)).setCell ⟨w.heap.size, 3, none⟩ (.int .i64 p.map.last)).setCell ⟨w.heap.size, 4, none⟩ (.slice A2 p.map.sp.length cap2)).setCell ⟨w.heap.size, 5, none⟩ (.int .i64 p.map.plan.kind)).setCell ⟨w.heap.size, 6, none⟩ (.int .i64 p.map.plan.phase)).setCell ⟨w.heap.size, 7, none⟩ (.int .i64 p.map.plan.shard)).setCell ⟨w.heap.size, 8, none⟩ (.int .i64 p.map.plan.other)).setCell ⟨w.heap.size, 9, none⟩ (.int .i64 p.map.plan.group)).setCell ⟨w.heap.size, 10, none⟩ (.int .i64 p.map.plan.past)).setCell ⟨w.heap.size, 11, none⟩ (.int .i64 p.map.plan.epoch)).setCell ⟨w.heap.size, 12, none⟩ (.string p.map.plan.key)).setCell ⟨w.heap.size, 13, none⟩ (.bool (!named r.name))).cell? ⟨w.heap.size + 1, 8, none⟩ = some (.int .i64 p.map.plan.kind) ∧ ((((((((((((w9.setCell ⟨w.heap.size, 2, none⟩ (.int .i64 p.map.groups)).setCell ⟨w.heap.size, 3, none⟩ (.int .i64 p.map.last)).setCell ⟨w.heap.size, 4, none⟩ (.slice A2 p.map.sp.length cap2)).setCell ⟨w.heap.size, 5, none⟩ (.int .i64 p.map.plan.kind)).setCell ⟨w.heap.size, 6, none⟩ (.int .i64 p.map.plan.phase)).setCell ⟨w.heap.size, 7, none⟩ (.int .i64 p.map.plan.shard)).setCell ⟨w.heap.size, 8, none⟩ (.int .i64 p.map.plan.other)).setCell ⟨w.heap.size, 9, none⟩ (.int .i64 p.map.plan.group)).setCell ⟨w.heap.size, 10, none⟩ (.int .i64 p.map.plan.past)).setCell ⟨w.heap.size, 11, none⟩ (.int .i64 p.map.plan.epoch)).setCell ⟨w.heap.size, 12, none⟩ (.string p.map.plan.key)).setCell ⟨w.heap.size, 13, none⟩ (.bool (!named r.name))).cell? ⟨w.heap.size + 1, 9, none⟩ = some (.int .i64 p.map.plan.phase) ∧ ((((((((((((w9.setCell ⟨w.heap.size, 2, none⟩ (.int .i64 p.map.groups)).setCell ⟨w.heap.size, 3, none⟩ (.int .i64 p.map.last)).setCell ⟨w.heap.size, 4, none⟩ (.slice A2 p.map.sp.length cap2)).setCell ⟨w.heap.size, 5, none⟩ (.int .i64 p.map.plan.kind)).setCell ⟨w.heap.size, 6, none⟩ (.int .i64 p.map.plan.phase)).setCell ⟨w.heap.size, 7, none⟩ (.int .i64 p.map.plan.shard)).setCell ⟨w.heap.size, 8, none⟩ (.int .i64 p.map.plan.other)).setCell ⟨w.heap.size, 9, none⟩ (.int .i64 p.map.plan.group)).setCell ⟨w.heap.size, 10, none⟩ (.int .i64 p.map.plan.past)).setCell ⟨w.heap.size, 11, none⟩ (.int .i64 p.map.plan.epoch)).setCell ⟨w.heap.size, 12, none⟩ (.string p.map.plan.key)).setCell ⟨w.heap.size, 13, none⟩ (.bool (!named r.name))).cell? ⟨w.heap.size + 1, 10, none⟩ = some (.int .i64 p.map.plan.shard) ∧ ((((((((((((w9.setCell ⟨w.heap.size, 2, none⟩ (.int .i64 p.map.groups)).setCell ⟨w.heap.size, 3, none⟩ (.int .i64 p.map.last)).setCell ⟨w.heap.size, 4, none⟩ (.slice A2 p.map.sp.length cap2)).setCell ⟨w.heap.size, 5, none⟩ (.int .i64 p.map.plan.kind)).setCell ⟨w.heap.size, 6, none⟩ (.int .i64 p.map.plan.phase)).setCell ⟨w.heap.size, 7, none⟩ (.int .i64 p.map.plan.shard)).setCell ⟨w.heap.size, 8, none⟩ (.int .i64 p.map.plan.other)).setCell ⟨w.heap.size, 9, none⟩ (.int .i64 p.map.plan.group)).setCell ⟨w.heap.size, 10, none⟩ (.int .i64 p.map.plan.past)).setCell ⟨w.heap.size, 11, none⟩ (.int .i64 p.map.plan.epoch)).setCell ⟨w.heap.size, 12, none⟩ (.string p.map.plan.key)).setCell ⟨w.heap.size, 13, none⟩ (.bool (!named r.name))).cell? ⟨w.heap.size + 1, 11, none⟩ = some (.int .i64 p.map.plan.other) ∧ ((((((((((((w9.setCell ⟨w.heap.size, 2, none⟩ (.int .i64 p.map.groups)).setCell ⟨w.heap.size, 3, none⟩ (.int .i64 p.map.last)).setCell ⟨w.heap.size, 4, none⟩ (.slice A2 p.map.sp.length cap2)).setCell ⟨w.heap.size, 5, none⟩ (.int .i64 p.map.plan.kind)).setCell ⟨w.heap.size, 6, none⟩ (.int .i64 p.map.plan.phase)).setCell ⟨w.heap.size, 7, none⟩ (.int .i64 p.map.plan.shard)).setCell ⟨w.heap.size, 8, none⟩ (.int .i64 p.map.plan.other)).setCell ⟨w.heap.size, 9, none⟩ (.int .i64 p.map.plan.group)).setCell ⟨w.heap.size, 10, none⟩ (.int .i64 p.map.plan.past)).setCell ⟨w.heap.size, 11, none⟩ (.int .i64 p.map.plan.epoch)).setCell ⟨w.heap.size, 12, none⟩ (.string p.map.plan.key)).setCell ⟨w.heap.size, 13, none⟩ (.bool (!named r.name))).cell? ⟨w.heap.size + 1, 12, none⟩ = some (.int .i64 p.map.plan.group) ∧ ((((((((((((w9.setCell ⟨w.heap.size, 2, none⟩ (.int .i64 p.map.groups)).setCell ⟨w.heap.size, 3, none⟩ (.int .i64 p.map.last)).setCell ⟨w.heap.size, 4, none⟩ (.slice A2 p.map.sp.length cap2)).setCell ⟨w.heap.size, 5, none⟩ (.int .i64 p.map.plan.kind)).setCell ⟨w.heap.size, 6, none⟩ (.int .i64 p.map.plan.phase)).setCell ⟨w.heap.size, 7, none⟩ (.int .i64 p.map.plan.shard)).setCell ⟨w.heap.size, 8, none⟩ (.int .i64 p.map.plan.other)).setCell ⟨w.heap.size, 9, none⟩ (.int .i64 p.map.plan.group)).setCell ⟨w.heap.size, 10, none⟩ (.int .i64 p.map.plan.past)).setCell ⟨w.heap.size, 11, none⟩ (.int .i64 p.map.plan.epoch)).setCell ⟨w.heap.size, 12, none⟩ (.string p.map.plan.key)).setCell ⟨w.heap.size, 13, none⟩ (.bool (!named r.name))).cell? ⟨w.heap.size + 1, 13, none⟩ = some (.int .i64 p.map.plan.past) ∧ ((((((((((((w9.setCell ⟨w.heap.size, 2, none⟩ (.int .i64 p.map.groups)).setCell ⟨w.heap.size, 3, none⟩ (.int .i64 p.map.last)).setCell ⟨w.heap.size, 4, none⟩ (.slice A2 p.map.sp.length cap2)).setCell ⟨w.heap.size, 5, none⟩ (.int .i64 p.map.plan.kind)).setCell ⟨w.heap.size, 6, none⟩ (.int .i64 p.map.plan.phase)).setCell ⟨w.heap.size, 7, none⟩ (.int .i64 p.map.plan.shard)).setCell ⟨w.heap.size, 8, none⟩ (.int .i64 p.map.plan.other)).setCell ⟨w.heap.size, 9, none⟩ (.int .i64 p.map.plan.group)).setCell ⟨w.heap.size, 10, none⟩ (.int .i64 p.map.plan.past)).setCell ⟨w.heap.size, 11, none⟩ (.int .i64 p.map.plan.epoch)).setCell ⟨w.heap.size, 12, none⟩ (.string p.map.plan.key)).setCell ⟨w.heap.size, 13, none⟩ (.bool (!named r.name))).cell? ⟨w.heap.size + 1, 14, none⟩ = some (.int .i64 p.map.plan.epoch) ∧ ((((((((((((w9.setCell ⟨w.heap.size, 2, none⟩ (.int .i64 p.map.groups)).setCell ⟨w.heap.size, 3, none⟩ (.int .i64 p.map.last)).setCell ⟨w.heap.size, 4, none⟩ (.slice A2 p.map.sp.length cap2)).setCell ⟨w.heap.size, 5, none⟩ (.int .i64 p.map.plan.kind)).setCell ⟨w.heap.size, 6, none⟩ (.int .i64 p.map.plan.phase)).setCell ⟨w.heap.size, 7, none⟩ (.int .i64 p.map.plan.shard)).setCell ⟨w.heap.size, 8, none⟩ (.int .i64 p.map.plan.other)).setCell ⟨w.heap.size, 9, none⟩ (.int .i64 p.map.plan.group)).setCell ⟨w.heap.size, 10, none⟩ (.int .i64 p.map.plan.past)).setCell ⟨w.heap.size, 11, none⟩ (.int .i64 p.map.plan.epoch)).setCell ⟨w.heap.size, 12, none⟩ (.string p.map.plan.key)).setCell ⟨w.heap.size, 13, none⟩ (.bool (!named r.name))).cell? ⟨w.heap.size + 1, 15, none⟩ = some (.string p.map.plan.key) from hmq)
       have HMr := Lib.hid (show (((((((((((((w9.setCell ⟨w.heap.size, 2, none⟩ (.int .i64 p.map.groups)).setCell ⟨w.heap.size, 3, none⟩ (.int .i64 p.map.last)).setCell ⟨w.heap.size, 4, none⟩ (.slice A2 p.map.sp.length cap2)).setCell ⟨w.heap.size, 5, none⟩ (.int .i64 p.map.plan.kind)).setCell ⟨w.heap.size, 6, none⟩ (.int .i64 p.map.plan.phase)).setCell ⟨w.heap.size, 7, none⟩ (.int .i64 p.map.plan.shard)).setCell ⟨w.heap.size, 8, none⟩ (.int .i64 p.map.plan.other)).setCell ⟨w.heap.size, 9, none⟩ (.int .i64 p.map.plan.group)).setCell ⟨w.heap.size, 10, none⟩ (.int .i64 p.map.plan.past)).setCell ⟨w.heap.size, 11, none⟩ (.int .i64 p.map.plan.epoch)).setCell ⟨w.heap.size, 12, none⟩ (.string p.map.plan.key)).setCell ⟨w.heap.size, 13, none⟩ (.bool (!named r.name))).setCell ⟨w.heap.size, 14, none⟩ (.int .i64 1)).cell? ⟨w.heap.size, 1, none⟩ = some (.string r.name) ∧ (((((((((((((w9.setCell ⟨w.heap.size, 2, none⟩ (.int .i64 p.map.groups)).setCell ⟨w.heap.size, 3, none⟩ (.int .i64 p.map.last)).setCell ⟨w.heap.size, 4, none⟩ (.slice A2 p.map.sp.length cap2)).setCell ⟨w.heap.size, 5, none⟩ (.int .i64 p.map.plan.kind)).setCell ⟨w.heap.size, 6, none⟩ (.int .i64 p.map.plan.phase)).setCell ⟨w.heap.size, 7, none⟩ (.int .i64 p.map.plan.shard)).setCell ⟨w.heap.size, 8, none⟩ (.int .i64 p.map.plan.other)).setCell ⟨w.heap.size, 9, none⟩ (.int .i64 p.map.plan.group)).setCell ⟨w.heap.size, 10, none⟩ (.int .i64 p.map.plan.past)).setCell ⟨w.heap.size, 11, none⟩ (.int .i64 p.map.plan.epoch)).setCell ⟨w.heap.size, 12, none⟩ (.string p.map.plan.key)).setCell ⟨w.heap.size, 13, none⟩ (.bool (!named r.name))).setCell ⟨w.heap.size, 14, none⟩ (.int .i64 1)).cell? ⟨w.heap.size + 1, 5, none⟩ = some (.int .i64 p.map.groups) ∧ (((((((((((((w9.setCell ⟨w.heap.size, 2, none⟩ (.int .i64 p.map.groups)).setCell ⟨w.heap.size, 3, none⟩ (.int .i64 p.map.last)).setCell ⟨w.heap.size, 4, none⟩ (.slice A2 p.map.sp.length cap2)).setCell ⟨w.heap.size, 5, none⟩ (.int .i64 p.map.plan.kind)).setCell ⟨w.heap.size, 6, none⟩ (.int .i64 p.map.plan.phase)).setCell ⟨w.heap.size, 7, none⟩ (.int .i64 p.map.plan.shard)).setCell ⟨w.heap.size, 8, none⟩ (.int .i64 p.map.plan.other)).setCell ⟨w.heap.size, 9, none⟩ (.int .i64 p.map.plan.group)).setCell ⟨w.heap.size, 10, none⟩ (.int .i64 p.map.plan.past)).setCell ⟨w.heap.size, 11, none⟩ (.int .i64 p.map.plan.epoch)).setCell ⟨w.heap.size, 12, none⟩ (.string p.map.plan.key)).setCell ⟨w.heap.size, 13, none⟩ (.bool (!named r.name))).setCell ⟨w.heap.size, 14, none⟩ (.int .i64 1)).cell? ⟨w.heap.size + 1, 6, none⟩ = some (.int .i64 p.map.last) ∧ (((((((((((((w9.setCell ⟨w.heap.size, 2, none⟩ (.int .i64 p.map.groups)).setCell ⟨w.heap.size, 3, none⟩ (.int .i64 p.map.last)).setCell ⟨w.heap.size, 4, none⟩ (.slice A2 p.map.sp.length cap2)).setCell ⟨w.heap.size, 5, none⟩ (.int .i64 p.map.plan.kind)).setCell ⟨w.heap.size, 6, none⟩ (.int .i64 p.map.plan.phase)).setCell ⟨w.heap.size, 7, none⟩ (.int .i64 p.map.plan.shard)).setCell ⟨w.heap.size, 8, none⟩ (.int .i64 p.map.plan.other)).setCell ⟨w.heap.size, 9, none⟩ (.int .i64 p.map.plan.group)).setCell ⟨w.heap.size, 10, none⟩ (.int .i64 p.map.plan.past)).setCell ⟨w.heap.size, 11, none⟩ (.int .i64 p.map.plan.epoch)).setCell ⟨w.heap.size, 12, none⟩ (.string p.map.plan.key)).setCell ⟨w.heap.size, 13, none⟩ (.bool (!named r.name))).setCell ⟨w.heap.size, 14, none⟩ (.int .i64 1)).cell? ⟨w.heap.size + 1, 7, none⟩ = some (.slice B p.map.sp.length bc) ∧ (((((((((((((w9.setCell ⟨w.heap.size, 2, none⟩ (.int .i64 p.map.groups)).setCell ⟨w.heap.size, 3, none⟩ (.int .i64 p.map.last)).setCell ⟨w.heap.size, 4, none⟩ (.slice A2 p.map.sp.length cap2)).setCell ⟨w.heap.size, 5, none⟩ (.int .i64 p.map.plan.kind)).setCell ⟨w.heap.size, 6, none⟩ (.int .i64 p.map.plan.phase)).setCell ⟨w.heap.size, 7, none⟩ (.int .i64 p.map.plan.shard)).setCell ⟨w.heap.size, 8, none⟩ (.int .i64 p.map.plan.other)).setCell ⟨w.heap.size, 9, none⟩ (.int .i64 p.map.plan.group)).setCell ⟨w.heap.size, 10, none⟩ (.int .i64 p.map.plan.past)).setCell ⟨w.heap.size, 11, none⟩ (.int .i64 p.map.plan.epoch)).setCell ⟨w.heap.size, 12, none⟩ (.string p.map.plan.key)).setCell ⟨w.heap.size, 13, none⟩ (.bool (!named r.name))).setCell ⟨w.heap.size, 14, none⟩ (.int .i64 1)).cell? ⟨w.heap.size + 1, 8, none⟩ = some (.int .i64 p.map.plan.kind) ∧ (((((((((((((w9.setCell ⟨w.heap.size, 2, none⟩ (.int .i64 p.map.groups)).setCell ⟨w.heap.size, 3, none⟩ (.int .i64 p.map.last)).setCell ⟨w.heap.size, 4, none⟩ (.slice A2 p.map.sp.length cap2)).setCell ⟨w.heap.size, 5, none⟩ (.int .i64 p.map.plan.kind)).setCell ⟨w.heap.size, 6, none⟩ (.int .i64 p.map.plan.phase)).setCell ⟨w.heap.size, 7, none⟩ (.int .i64 p.map.plan.shard)).setCell ⟨w.heap.size, 8, none⟩ (.int .i64 p.map.plan.other)).setCell ⟨w.heap.size, 9, none⟩ (.int .i64 p.map.plan.group)).setCell ⟨w.heap.size, 10, none⟩ (.int .i64 p.map.plan.past)).setCell ⟨w.heap.size, 11, none⟩ (.int .i64 p.map.plan.epoch)).setCell ⟨w.heap.size, 12, none⟩ (.string p.map.plan.key)).setCell ⟨w.heap.size, 13, none⟩ (.bool (!named r.name))).setCell ⟨w.heap.size, 14, none⟩ (.int .i64 1)).cell? ⟨w.heap.size + 1, 9, none⟩ = some (.int .i64 p.map.plan.phase) ∧ (((((((((((((w9.setCell ⟨w.heap.size, 2, none⟩ (.int .i64 p.map.groups)).setCell ⟨w.heap.size, 3, none⟩ (.int .i64 p.map.last)).setCell ⟨w.heap.size, 4, none⟩ (.slice A2 p.map.sp.length cap2)).setCell ⟨w.heap.size, 5, none⟩ (.int .i64 p.map.plan.kind)).setCell ⟨w.heap.size, 6, none⟩ (.int .i64 p.map.plan.phase)).setCell ⟨w.heap.size, 7, none⟩ (.int .i64 p.map.plan.shard)).setCell ⟨w.heap.size, 8, none⟩ (.int .i64 p.map.plan.other)).setCell ⟨w.heap.size, 9, none⟩ (.int .i64 p.map.plan.group)).setCell ⟨w.heap.size, 10, none⟩ (.int .i64 p.map.plan.past)).setCell ⟨w.heap.size, 11, none⟩ (.int .i64 p.map.plan.epoch)).setCell ⟨w.heap.size, 12, none⟩ (.string p.map.plan.key)).setCell ⟨w.heap.size, 13, none⟩ (.bool (!named r.name))).setCell ⟨w.heap.size, 14, none⟩ (.int .i64 1)).cell? ⟨w.heap.size + 1, 10, none⟩ = some (.int .i64 p.map.plan.shard) ∧ (((((((((((((w9.setCell ⟨w.heap.size, 2, none⟩ (.int .i64 p.map.groups)).setCell ⟨w.heap.size, 3, none⟩ (.int .i64 p.map.last)).setCell ⟨w.heap.size, 4, none⟩ (.slice A2 p.map.sp.length cap2)).setCell ⟨w.heap.size, 5, none⟩ (.int .i64 p.map.plan.kind)).setCell ⟨w.heap.size, 6, none⟩ (.int .i64 p.map.plan.phase)).setCell ⟨w.heap.size, 7, none⟩ (.int .i64 p.map.plan.shard)).setCell ⟨w.heap.size, 8, none⟩ (.int .i64 p.map.plan.other)).setCell ⟨w.heap.size, 9, none⟩ (.int .i64 p.map.plan.group)).setCell ⟨w.heap.size, 10, none⟩ (.int .i64 p.map.plan.past)).setCell ⟨w.heap.size, 11, none⟩ (.int .i64 p.map.plan.epoch)).setCell ⟨w.heap.size, 12, none⟩ (.string p.map.plan.key)).setCell ⟨w.heap.size, 13, none⟩ (.bool (!named r.name))).setCell ⟨w.heap.size, 14, none⟩ (.int .i64 1)).cell? ⟨w.heap.size + 1, 11, none⟩ = some (.int .i64 p.map.plan.other) ∧ (((((((((((((w9.setCell ⟨w.heap.size, 2, none⟩ (.int .i64 p.map.groups)).setCell ⟨w.heap.size, 3, none⟩ (.int .i64 p.map.last)).setCell ⟨w.heap.size, 4, none⟩ (.slice A2 p.map.sp.length cap2)).setCell ⟨w.heap.size, 5, none⟩ (.int .i64 p.map.plan.kind)).setCell ⟨w.heap.size, 6, none⟩ (.int .i64 p.map.plan.phase)).setCell ⟨w.heap.size, 7, none⟩ (.int .i64 p.map.plan.shard)).setCell ⟨w.heap.size, 8, none⟩ (.int .i64 p.map.plan.other)).setCell ⟨w.heap.size, 9, none⟩ (.int .i64 p.map.plan.group)).setCell ⟨w.heap.size, 10, none⟩ (.int .i64 p.map.plan.past)).setCell ⟨w.heap.size, 11, none⟩ (.int .i64 p.map.plan.epoch)).setCell ⟨w.heap.size, 12, none⟩ (.string p.map.plan.key)).setCell ⟨w.heap.size, 13, none⟩ (.bool (!named r.name))).setCell ⟨w.heap.size, 14, none⟩ (.int .i64 1)).cell? ⟨w.heap.size + 1, 12, none⟩ = some (.int .i64 p.map.plan.group) ∧ (((((((((((((w9.setCell ⟨w.heap.size, 2, none⟩ (.int .i64 p.map.groups)).setCell ⟨w.heap.size, 3, none⟩ (.int .i64 p.map.last)).setCell ⟨w.heap.size, 4, none⟩ (.slice A2 p.map.sp.length cap2)).setCell ⟨w.heap.size, 5, none⟩ (.int .i64 p.map.plan.kind)).setCell ⟨w.heap.size, 6, none⟩ (.int .i64 p.map.plan.phase)).setCell ⟨w.heap.size, 7, none⟩ (.int .i64 p.map.plan.shard)).setCell ⟨w.heap.size, 8, none⟩ (.int .i64 p.map.plan.other)).setCell ⟨w.heap.size, 9, none⟩ (.int .i64 p.map.plan.group)).setCell ⟨w.heap.size, 10, none⟩ (.int .i64 p.map.plan.past)).setCell ⟨w.heap.size, 11, none⟩ (.int .i64 p.map.plan.epoch)).setCell ⟨w.heap.size, 12, none⟩ (.string p.map.plan.key)).setCell ⟨w.heap.size, 13, none⟩ (.bool (!named r.name))).setCell ⟨w.heap.size, 14, none⟩ (.int .i64 1)).cell? ⟨w.heap.size + 1, 13, none⟩ = some (.int .i64 p.map.plan.past) ∧ (((((((((((((w9.setCell ⟨w.heap.size, 2, none⟩ (.int .i64 p.map.groups)).setCell ⟨w.heap.size, 3, none⟩ (.int .i64 p.map.last)).setCell ⟨w.heap.size, 4, none⟩ (.slice A2 p.map.sp.length cap2)).setCell ⟨w.heap.size, 5, none⟩ (.int .i64 p.map.plan.kind)).setCell ⟨w.heap.size, 6, none⟩ (.int .i64 p.map.plan.phase)).setCell ⟨w.heap.size, 7, none⟩ (.int .i64 p.map.plan.shard)).setCell ⟨w.heap.size, 8, none⟩ (.int .i64 p.map.plan.other)).setCell ⟨w.heap.size, 9, none⟩ (.int .i64 p.map.plan.group)).setCell ⟨w.heap.size, 10, none⟩ (.int .i64 p.map.plan.past)).setCell ⟨w.heap.size, 11, none⟩ (.int .i64 p.map.plan.epoch)).setCell ⟨w.heap.size, 12, none⟩ (.string p.map.plan.key)).setCell ⟨w.heap.size, 13, none⟩ (.bool (!named r.name))).setCell ⟨w.heap.size, 14, none⟩ (.int .i64 1)).cell? ⟨w.heap.size + 1, 14, none⟩ = some (.int .i64 p.map.plan.epoch) ∧ (((((((((((((w9.setCell ⟨w.heap.size, 2, none⟩ (.int .i64 p.map.groups)).setCell ⟨w.heap.size, 3, none⟩ (.int .i64 p.map.last)).setCell ⟨w.heap.size, 4, none⟩ (.slice A2 p.map.sp.length cap2)).setCell ⟨w.heap.size, 5, none⟩ (.int .i64 p.map.plan.kind)).setCell ⟨w.heap.size, 6, none⟩ (.int .i64 p.map.plan.phase)).setCell ⟨w.heap.size, 7, none⟩ (.int .i64 p.map.plan.shard)).setCell ⟨w.heap.size, 8, none⟩ (.int .i64 p.map.plan.other)).setCell ⟨w.heap.size, 9, none⟩ (.int .i64 p.map.plan.group)).setCell ⟨w.heap.size, 10, none⟩ (.int .i64 p.map.plan.past)).setCell ⟨w.heap.size, 11, none⟩ (.int .i64 p.map.plan.epoch)).setCell ⟨w.heap.size, 12, none⟩ (.string p.map.plan.key)).setCell ⟨w.heap.size, 13, none⟩ (.bool (!named r.name))).setCell ⟨w.heap.size, 14, none⟩ (.int .i64 1)).cell? ⟨w.heap.size + 1, 15, none⟩ = some (.string p.map.plan.key) from hmr)
       clear hm9 hmp hmq hmr
       have HX9 := Lib.hid hX9
       have HR9 := Lib.hid (blk_below hb9 (lt_of_some HR8.out) HR8.out)
       have HI9 := Lib.hid (own_only HI8.out (Only.of_below (F := fun _ => False) hb9) (fun _ _ h => h))
       have HJ9 := Lib.hid (own_only HJ8.out (Only.of_below (F := fun _ => False) hb9) (fun _ _ h => h))
       have HO9 := Lib.hid (own_only HO8.out (Only.of_below (F := fun _ => False) hb9) (fun _ _ h => h))
       have HB9 := Lib.hid (HB8.out.trans (hb9.mono HB8.out.size))
       clear hb9 hX9))
  have hset : (((putMap w9 w.heap.size p.map (.slice A2 p.map.sp.length cap2)).setCell ⟨w.heap.size, 13, none⟩ (.bool (!named r.name))).setCell ⟨w.heap.size, 14, none⟩ (.int .i64 1)).heap[w.heap.size]? = some (Rte.blk { r with map := p.map, fetch := !named r.name, node := 1 } (.slice A2 p.map.sp.length cap2) (.slice J' l.length jc')) := by
    have := (heap_setCell_at (i := 14) (heap_setCell_at (i := 13) (rte_putmap p.map (.slice A2 p.map.sp.length cap2) HX9.out) (.bool (!named r.name))) (.int .i64 1))
    rw [this]
    simp only [Rte.blk, List.setIfInBounds_toArray, List.set_cons_zero, List.set_cons_succ]
  have hon : Only (· = w.heap.size) w9 (((putMap w9 w.heap.size p.map (.slice A2 p.map.sp.length cap2)).setCell ⟨w.heap.size, 13, none⟩ (.bool (!named r.name))).setCell ⟨w.heap.size, 14, none⟩ (.int .i64 1)) := (((putMap_only w9 w.heap.size p.map (.slice A2 p.map.sp.length cap2)).trans (only_setCell _ ⟨w.heap.size, 13, none⟩ (.bool (!named r.name))) (fun _ _ h => h)).trans (only_setCell _ ⟨w.heap.size, 14, none⟩ (.int .i64 1)) (fun _ _ h => h))
  have hs0 := Hs0.out
  have Hw7 := Lib.hid hs7
  have HR10 := Lib.hid ((hon.block _ (lt_of_some HR9.out) (by show ¬ _ = w.heap.size; omega)).trans HR9.out)
  have HI10 := Lib.hid (own_only HO9.out hon (fun k hk he => by have := (HO9.out.lt k hk).1; have he : k = w.heap.size := he; have h2 : w7.heap.size ≤ k := this; omega))
  have HB10 := Lib.hid (hon.below HB9.out (fun k hk => by have hk : k = w.heap.size := hk; omega) HB9.out.size)
  have HS10 := Lib.hid hset
  clear hset hon hs0 hs7 hs9 d0 d1 d13 d14 d15 d16 dlt d2 d3 d4 d5 d6 d7 d8 d9 d10 d11 d12 d17 d18 d19 e2 e3 e4 e5 e6 e7 e8 e9 e10 e11 e12 e13 e14 e15 e16 e17 e18 e19 HMp HMq HMr HM9
  change Exit.inBlock _ _ _ _ (((putMap w9 w.heap.size p.map (.slice A2 p.map.sp.length cap2)).setCell ⟨w.heap.size, 13, none⟩ (.bool (!named r.name))).setCell ⟨w.heap.size, 14, none⟩ (.int .i64 1))
  generalize (((putMap w9 w.heap.size p.map (.slice A2 p.map.sp.length cap2)).setCell ⟨w.heap.size, 13, none⟩ (.bool (!named r.name))).setCell ⟨w.heap.size, 14, none⟩ (.int .i64 1)) = w10 at *
  obtain ⟨⟨d0, d1, d13, d14, d15, d16, dlt⟩, ⟨d2, d3, d4, d5, d6, d7, d8, d9, d10, d11, d12⟩, d17, d18, d19⟩ := rte_cells HS10.out
  have f13 := fz_blk HS10.out 13; have f15 := fz_blk HS10.out 15; have f16 := fz_blk HS10.out 16; have f17 := fz_blk HS10.out 17; have f18 := fz_blk HS10.out 18; have f19 := fz_blk HS10.out 19
  rw [show ({ r with map := p.map, fetch := !named r.name, node := 1 } : Rte).left = r.left from rfl, K5.out] at d15
  clear d0 d1 d2 d3 d4 d5 d6 d7 d8 d9 d10 d11 d12
  go_upto_region 20 with fail
  have hset : ((((((w10.setCell ⟨w.heap.size, 15, none⟩ (.int .i64 0)).setCell ⟨w.heap.size, 16, none⟩ (.bool true)).setCell ⟨w.heap.size, 17, none⟩ (.int .i64 181)).setCell ⟨w.heap.size, 18, none⟩ (.int .i64 0)).setCell ⟨w.heap.size, 19, none⟩ (nilV)).setCell ⟨w.heap.size, 13, none⟩ (.bool false)).heap[w.heap.size]? = some (Rte.blk { r with map := p.map, fetch := false, node := 1, left := 0, done := true, err := 181, time := 0 } (.slice A2 p.map.sp.length cap2) nilV) := by
    have := (heap_setCell_at (i := 13) (heap_setCell_at (i := 19) (heap_setCell_at (i := 18) (heap_setCell_at (i := 17) (heap_setCell_at (i := 16) (heap_setCell_at (i := 15) HS10.out (.int .i64 0)) (.bool true)) (.int .i64 181)) (.int .i64 0)) (nilV)) (.bool false))
    rw [this]
    simp only [Rte.blk, List.setIfInBounds_toArray, List.set_cons_zero, List.set_cons_succ]
  have hon : Only (· = w.heap.size) w10 ((((((w10.setCell ⟨w.heap.size, 15, none⟩ (.int .i64 0)).setCell ⟨w.heap.size, 16, none⟩ (.bool true)).setCell ⟨w.heap.size, 17, none⟩ (.int .i64 181)).setCell ⟨w.heap.size, 18, none⟩ (.int .i64 0)).setCell ⟨w.heap.size, 19, none⟩ (nilV)).setCell ⟨w.heap.size, 13, none⟩ (.bool false)) := ((((((only_setCell w10 ⟨w.heap.size, 15, none⟩ (.int .i64 0)).trans (only_setCell (w10.setCell ⟨w.heap.size, 15, none⟩ (.int .i64 0)) ⟨w.heap.size, 16, none⟩ (.bool true)) (fun _ _ h => h)).trans (only_setCell ((w10.setCell ⟨w.heap.size, 15, none⟩ (.int .i64 0)).setCell ⟨w.heap.size, 16, none⟩ (.bool true)) ⟨w.heap.size, 17, none⟩ (.int .i64 181)) (fun _ _ h => h)).trans (only_setCell (((w10.setCell ⟨w.heap.size, 15, none⟩ (.int .i64 0)).setCell ⟨w.heap.size, 16, none⟩ (.bool true)).setCell ⟨w.heap.size, 17, none⟩ (.int .i64 181)) ⟨w.heap.size, 18, none⟩ (.int .i64 0)) (fun _ _ h => h)).trans (only_setCell ((((w10.setCell ⟨w.heap.size, 15, none⟩ (.int .i64 0)).setCell ⟨w.heap.size, 16, none⟩ (.bool true)).setCell ⟨w.heap.size, 17, none⟩ (.int .i64 181)).setCell ⟨w.heap.size, 18, none⟩ (.int .i64 0)) ⟨w.heap.size, 19, none⟩ (nilV)) (fun _ _ h => h)).trans (only_setCell (((((w10.setCell ⟨w.heap.size, 15, none⟩ (.int .i64 0)).setCell ⟨w.heap.size, 16, none⟩ (.bool true)).setCell ⟨w.heap.size, 17, none⟩ (.int .i64 181)).setCell ⟨w.heap.size, 18, none⟩ (.int .i64 0)).setCell ⟨w.heap.size, 19, none⟩ (nilV)) ⟨w.heap.size, 13, none⟩ (.bool false)) (fun _ _ h => h))
  have hs0 := Hs0.out
  have hs7 := Hw7.out
  have HR11 := Lib.hid ((hon.block _ (lt_of_some HR10.out) (by show ¬ _ = w.heap.size; omega)).trans HR10.out)
  have HI11 := Lib.hid (own_only HI10.out hon (fun k hk he => by have := (HI10.out.lt k hk).1; have he : k = w.heap.size := he; have h2 : w7.heap.size ≤ k := this; omega))
  have HB11 := Lib.hid (hon.below HB10.out (fun k hk => by have hk : k = w.heap.size := hk; omega) HB10.out.size)
  have HS11 := Lib.hid hset
  clear hset hon hs0
  change Code.wp _ _ _ _ ((((((w10.setCell ⟨w.heap.size, 15, none⟩ (.int .i64 0)).setCell ⟨w.heap.size, 16, none⟩ (.bool true)).setCell ⟨w.heap.size, 17, none⟩ (.int .i64 181)).setCell ⟨w.heap.size, 18, none⟩ (.int .i64 0)).setCell ⟨w.heap.size, 19, none⟩ (nilV)).setCell ⟨w.heap.size, 13, none⟩ (.bool false))
  generalize ((((((w10.setCell ⟨w.heap.size, 15, none⟩ (.int .i64 0)).setCell ⟨w.heap.size, 16, none⟩ (.bool true)).setCell ⟨w.heap.size, 17, none⟩ (.int .i64 181)).setCell ⟨w.heap.size, 18, none⟩ (.int .i64 0)).setCell ⟨w.heap.size, 19, none⟩ (nilV)).setCell ⟨w.heap.size, 13, none⟩ (.bool false)) = w11 at *
  refine wp_region_lit ?_
  refine wpList_load39 rfl (.tmp 2) rfl w.heap.size rfl HS11.out ?_
  simp only [Act.put, List.setIfInBounds_toArray, List.set_cons_zero, List.set_cons_succ]
  refine wpList_store39 rfl (.tmp 4) (.tmp 113) rfl (w.heap.size + 1 + 1) rfl (r := { r with map := p.map, fetch := false, node := 1, left := 0, done := true, err := 181, time := 0 }) (v := .slice A2 p.map.sp.length cap2) (j := nilV) rfl rfl rfl HR11.out ?_
  intro w19 h19 ho19
  simp only [Act.put, List.setIfInBounds_toArray, List.set_cons_zero, List.set_cons_succ]
  go_wp2
  refine bodyPost_ret (results39_one rfl _ _ (w.heap.size + 1 + 1) rfl h19) rfl ?_
  have hs0 := Hs0.out
  have q1 := own_base (own_only HI11.out ho19 (fun k hk he => by have h2 : w7.heap.size ≤ k := (HI11.out.lt k hk).1; omega)) (base' := w.heap.size) (by show w.heap.size ≤ w7.heap.size; omega)
  exact ⟨A2, cap2, rfl, q1, ho19.below HB11.out (fun k hk => by omega) HB11.out.size⟩
end Go.Proofs.Ytimondpollbdfaa
namespace Go.Proofs.Ytimondpollbdfaa
open Go.RowKit
attribute [local go_sem] Span.val Atl.val Plan.val Rte.val Rep.val

set_option maxRecDepth 100000 in
set_option maxHeartbeats 1000000 in
theorem heard_answer (w : World) (A J PJ : Option Addr) (cap jc pc : Nat) (r : Rte) (l : List JobD) (p : Rep) (pl : List JobD) (pv : Value) (h : MapIn w A cap r.map) (hn : r.name.size ≤ 9223372036854775807) (hl1 : r.map.sp.length * 56 ≤ 140737488355328) (hj : RowAt w w.heap.size 8 J (l.map JobD.cells)) (hl2 : l.length * 96 ≤ 140737488355328) (hv : tr (RteOk r) = true) (hd : r.done = false) (hpj : RowAt w w.heap.size 8 PJ (pl.map JobD.cells)) (hl3 : pl.length * 96 ≤ 140737488355328) (k1 : p.kind = 2) (k2 : r.fetch = false) (k3 : staleB p.err = false) :
    Calls Try.prog 33 #[r.val (.slice A r.map.sp.length cap) (.slice J l.length jc), p.val (.slice PJ pl.length pc) pv] w fun e w' => ∃ A' cap' J' jc', e = .returned ({ r with done := true, err := p.err, time := p.time }.val (.slice A' r.map.sp.length cap') (.slice J' pl.length jc')) ∧ w'.ownsRow w.heap.size 50 5 (.slice A' r.map.sp.length cap') r.map.sp.length (r.map.sp.map Span.cells).flatten ∧ w'.ownsRow w.heap.size 88 8 (.slice J' pl.length jc') pl.length (pl.map JobD.cells).flatten ∧ Below w.heap.size w w' := by
  have hok := of_tr hv
  have g1 := hok.1; have g2 := hok.2.1; have g3 := hok.2.2.1; have g4 := hok.2.2.2.1; have g5 := hok.2.2.2.2.1; have g6 := hok.2.2.2.2.2.1
  clear hok
  have e1 : 0 ≤ r.node % r.nodes := Int.emod_nonneg _ (by omega)
  have e2 : r.node % r.nodes < r.nodes := Int.emod_lt_of_pos _ (by omega)
  have K1 := Lib.hid k1; have K2 := Lib.hid k2; have HPJ := Lib.hid hpj; clear k1 k2 hpj
  have hck := fun w h => rteCheck_any w A cap (.slice J l.length jc) r h hn
  rw [hv] at hck
  have Hck := Lib.hid hck; have HI := Lib.hid h; have HJ := Lib.hid hj; clear hck h hj hv
  have Hd := Lib.hid hd; clear hd
  go_enter Try.func33, Try.ntmps33
  go_upto_region 1 with fail
  have hX0 : (((w.alloc (r.blk (.slice A r.map.sp.length cap) (.slice J l.length jc))).alloc (p.blk (.slice PJ pl.length pc) pv)).alloc (zeroR.blk nilV nilV)).heap[w.heap.size]? = some (r.blk (.slice A r.map.sp.length cap) (.slice J l.length jc)) := (Below.heap_alloc _ _ _ (by simp; omega)).trans ((Below.heap_alloc _ _ _ (by simp)).trans (heap_alloc_new w _))
  have hR0 : (((w.alloc (r.blk (.slice A r.map.sp.length cap) (.slice J l.length jc))).alloc (p.blk (.slice PJ pl.length pc) pv)).alloc (zeroR.blk nilV nilV)).heap[w.heap.size + 1 + 1]? = some (zeroR.blk nilV nilV) := by simpa using heap_alloc_new ((w.alloc (r.blk (.slice A r.map.sp.length cap) (.slice J l.length jc))).alloc (p.blk (.slice PJ pl.length pc) pv)) (zeroR.blk nilV nilV)
  have hP0 : (((w.alloc (r.blk (.slice A r.map.sp.length cap) (.slice J l.length jc))).alloc (p.blk (.slice PJ pl.length pc) pv)).alloc (zeroR.blk nilV nilV)).heap[w.heap.size + 1]? = some (p.blk (.slice PJ pl.length pc) pv) := (Below.heap_alloc _ _ _ (by simp)).trans (heap_second _ _ _)
  have hB0 : Below w.heap.size w (((w.alloc (r.blk (.slice A r.map.sp.length cap) (.slice J l.length jc))).alloc (p.blk (.slice PJ pl.length pc) pv)).alloc (zeroR.blk nilV nilV)) := al3 _ _ _
  change Code.wp _ _ _ _ (((w.alloc (r.blk (.slice A r.map.sp.length cap) (.slice J l.length jc))).alloc (p.blk (.slice PJ pl.length pc) pv)).alloc (zeroR.blk nilV nilV))
  have hs0 : (((w.alloc (r.blk (.slice A r.map.sp.length cap) (.slice J l.length jc))).alloc (p.blk (.slice PJ pl.length pc) pv)).alloc (zeroR.blk nilV nilV)).heap.size = w.heap.size + 1 + 1 + 1 := by simp
  generalize ((w.alloc (r.blk (.slice A r.map.sp.length cap) (.slice J l.length jc))).alloc (p.blk (.slice PJ pl.length pc) pv)).alloc (zeroR.blk nilV nilV) = w0 at *
  have Hs0 := Lib.hid hs0; clear hs0
  refine wp_region_lit ?_
  refine wpList_load39 rfl (.tmp 2) rfl w.heap.size rfl hX0 ?_
  simp only [Act.put, List.setIfInBounds_toArray, List.set_cons_zero, List.set_cons_succ]
  refine wpList_step (fun K hK => ?_)
  go_simp
  refine hK _ _ ?_
  clear hK K
  refine wpList_store39 rfl (.tmp 5) (.tmp 7) rfl w0.heap.size rfl (r := r) (v := .slice A r.map.sp.length cap) (j := .slice J l.length jc) (r0 := zeroR) (v0 := nilV) (j0 := nilV) rfl rfl rfl (heap_alloc_new w0 _) ?_
  intro w3 hO3 ho3
  simp only [Act.put, List.setIfInBounds_toArray, List.set_cons_zero, List.set_cons_succ]
  have hb3 : Below w0.heap.size w0 w3 := ho3.below (al _) (fun k hk => by omega) (by simp)
  have hs0 := Hs0.out
  have HX3 := Lib.hid (blk_below hb3 (by omega) hX0)
  have HP3 := Lib.hid (blk_below hb3 (by omega) hP0)
  have HR3 := Lib.hid (blk_below hb3 (by omega) hR0)
  have HB3 := Lib.hid (hB0.trans (hb3.mono (by omega)))
  have HO3 := Lib.hid hO3
  have hs3 : w0.heap.size < w3.heap.size := lt_of_some hO3
  clear hP0 hX0 hR0 hB0 hb3 hO3 ho3 hs0
  go_upto_region 2 with fail
  refine wp_region_lit ?_
  refine wpList_load39 rfl (.tmp 2) rfl w.heap.size rfl HX3.out ?_
  simp only [Act.put, List.setIfInBounds_toArray, List.set_cons_zero, List.set_cons_succ]
  refine wpList_step (fun K hK => ?_)
  go_simp
  go_at_call 56
  refine (fresh_any _ A J cap jc r l (HI.out.below HB3.out) hl1 ((HJ.out.below HB3.out (Nat.le_refl _)).more HB3.out.size) hl2).mono ?_
  rintro e w4 ⟨A', cap', J', jc', rfl, hI4, hJ4, hb4⟩
  refine hK _ _ ?_
  clear hK K
  have hX4 := blk_below hb4 (lt_of_some HX3.out) HX3.out
  have HP4 := Lib.hid (blk_below hb4 (lt_of_some HP3.out) HP3.out)
  have HR4 := Lib.hid (blk_below hb4 (lt_of_some HR3.out) HR3.out)
  have HO4 := Lib.hid (blk_below hb4 (lt_of_some HO3.out) HO3.out)
  have HB4 := Lib.hid (HB3.out.trans (hb4.mono HB3.out.size))
  have HS4 := Lib.hid hb4.size
  refine wpList_store39 rfl (.tmp 2) (.tmp 9) rfl w.heap.size rfl (r := r) (v := .slice A' r.map.sp.length cap') (j := .slice J' l.length jc') rfl rfl rfl hX4 ?_
  intro w5 hX5 ho5
  simp only [Act.put, List.setIfInBounds_toArray, List.set_cons_zero, List.set_cons_succ]
  have hs0 := Hs0.out
  have hsz3 : w.heap.size + 1 + 1 + 1 < w3.heap.size := by omega
  have HI5 := Lib.hid (own_only hI4 ho5 (fun k hk he => by have := (hI4.lt k hk).1; omega))
  have HJ5 := Lib.hid (own_only hJ4 ho5 (fun k hk he => by have := (hJ4.lt k hk).1; omega))
  have HP5 := Lib.hid ((ho5.block _ (lt_of_some HP4.out) (by omega)).trans HP4.out)
  have HR5 := Lib.hid ((ho5.block _ (lt_of_some HR4.out) (by omega)).trans HR4.out)
  have HO5 := Lib.hid ((ho5.block _ (lt_of_some HO4.out) (by omega)).trans HO4.out)
  have HB5 := Lib.hid (ho5.below HB4.out (fun k hk => by omega) HB4.out.size)
  have HX5 := Lib.hid hX5
  clear hI4 hJ4 hX4 ho5 hX5
  go_upto_region 3 with fail
  refine wp_region_lit ?_
  refine wpList_load39 rfl (.tmp 5) rfl w0.heap.size rfl HO5.out ?_
  simp only [Act.put, List.setIfInBounds_toArray, List.set_cons_zero, List.set_cons_succ]
  clear hs0
  go_upto_region 9 with (first
    | (go_at_call 26
       refine (Hck.out _ (HI.out.below HB5.out)).mono ?_
       rintro e w6 ⟨rfl, hb6⟩
       have hX6 := blk_below hb6 (lt_of_some HX5.out) HX5.out
       have hP6 := blk_below hb6 (lt_of_some HP5.out) HP5.out
       have hO6 := (rte_cells (blk_below hb6 (lt_of_some HO5.out) HO5.out)).1.2.2.2.2.2
       obtain ⟨⟨c0, c1, c13, c14, c15, c16, clt⟩, ⟨c2, c3, c4, c5, c6, c7, c8, c9, c10, c11, c12⟩, c17, c18, c19⟩ := rte_cells hX6
       obtain ⟨⟨q0, q1, q2, q3, q4, qlt⟩, q5, q6, q7, q8, q9, q10, q11, q12, q13, q14, q15⟩ := rep_cells hP6
       obtain ⟨o16, olt⟩ := hO6
       have f13 := fz_blk hX6 13; have f14 := fz_blk hX6 14; have f15 := fz_blk hX6 15; have f16 := fz_blk hX6 16; have f17 := fz_blk hX6 17; have f18 := fz_blk hX6 18; have f19 := fz_blk hX6 19
       rw [Hd.out] at o16 c16
       rw [K2.out] at c13
       rw [K1.out] at q0
       have HP6 := Lib.hid hP6
       have HX6 := Lib.hid hX6
       have HR6 := Lib.hid (blk_below hb6 (lt_of_some HR5.out) HR5.out)
       have HI6 := Lib.hid (own_only HI5.out (Only.of_below (F := fun _ => False) hb6) (fun _ _ h => h))
       have HJ6 := Lib.hid (own_only HJ5.out (Only.of_below (F := fun _ => False) hb6) (fun _ _ h => h))
       have HB6 := Lib.hid (HB5.out.trans (hb6.mono HB5.out.size))
       clear hb6 hX6 hP6)
    | (go_at_call 57
       refine (stale_any _ _).mono ?_
       rintro e w7 ⟨rfl, hw7⟩
       obtain rfl : w6 = w7 := hw7.symm))
  have hcd : w6.cell? ⟨w.heap.size + 1, 2, none⟩ = some (.int .i64 p.err) ∧ w6.cell? ⟨w.heap.size + 1, 3, none⟩ = some (.int .i64 p.time) ∧ w6.cell? ⟨w.heap.size + 1, 4, none⟩ = some (.slice PJ pl.length pc) := ⟨q2, q3, q4⟩
  have HCD := Lib.hid (show w6.drew.cell? ⟨w.heap.size + 1, 2, none⟩ = some (.int .i64 p.err) ∧ w6.drew.cell? ⟨w.heap.size + 1, 3, none⟩ = some (.int .i64 p.time) ∧ w6.drew.cell? ⟨w.heap.size + 1, 4, none⟩ = some (.slice PJ pl.length pc) from hcd)
  have hs6 : w.heap.size + 1 + 1 < w6.heap.size := lt_of_some HR6.out
  have hk1 : ∀ (W : World) (i : Nat) (u : Value) (j : Nat), (W.setCell ⟨w.heap.size, i, none⟩ u).cell? ⟨w.heap.size + 1, j, none⟩ = W.cell? ⟨w.heap.size + 1, j, none⟩ := fun W i u j => World.cell?_setCell_other W ⟨w.heap.size, i, none⟩ ⟨w.heap.size + 1, j, none⟩ u (fun h => absurd (Addr.mk.inj h).1 (by omega))
  have hcp : (w6.setCell ⟨w.heap.size, 16, none⟩ (.bool true)).cell? ⟨w.heap.size + 1, 2, none⟩ = some (.int .i64 p.err) ∧ (w6.setCell ⟨w.heap.size, 16, none⟩ (.bool true)).cell? ⟨w.heap.size + 1, 3, none⟩ = some (.int .i64 p.time) ∧ (w6.setCell ⟨w.heap.size, 16, none⟩ (.bool true)).cell? ⟨w.heap.size + 1, 4, none⟩ = some (.slice PJ pl.length pc) := ⟨(hk1 _ _ _ _).trans hcd.1, (hk1 _ _ _ _).trans hcd.2.1, (hk1 _ _ _ _).trans hcd.2.2⟩
  have HCP := Lib.hid (show (w6.setCell ⟨w.heap.size, 16, none⟩ (.bool true)).drew.cell? ⟨w.heap.size + 1, 2, none⟩ = some (.int .i64 p.err) ∧ (w6.setCell ⟨w.heap.size, 16, none⟩ (.bool true)).drew.cell? ⟨w.heap.size + 1, 3, none⟩ = some (.int .i64 p.time) ∧ (w6.setCell ⟨w.heap.size, 16, none⟩ (.bool true)).drew.cell? ⟨w.heap.size + 1, 4, none⟩ = some (.slice PJ pl.length pc) from hcp)
  have hcq : ((((w6.setCell ⟨w.heap.size, 16, none⟩ (.bool true)).setCell ⟨w.heap.size, 17, none⟩ (.int .i64 p.err)).setCell ⟨w.heap.size, 18, none⟩ (.int .i64 p.time)).setCell ⟨w.heap.size, 19, none⟩ (.slice PJ pl.length pc)).cell? ⟨w.heap.size + 1, 2, none⟩ = some (.int .i64 p.err) ∧ ((((w6.setCell ⟨w.heap.size, 16, none⟩ (.bool true)).setCell ⟨w.heap.size, 17, none⟩ (.int .i64 p.err)).setCell ⟨w.heap.size, 18, none⟩ (.int .i64 p.time)).setCell ⟨w.heap.size, 19, none⟩ (.slice PJ pl.length pc)).cell? ⟨w.heap.size + 1, 3, none⟩ = some (.int .i64 p.time) ∧ ((((w6.setCell ⟨w.heap.size, 16, none⟩ (.bool true)).setCell ⟨w.heap.size, 17, none⟩ (.int .i64 p.err)).setCell ⟨w.heap.size, 18, none⟩ (.int .i64 p.time)).setCell ⟨w.heap.size, 19, none⟩ (.slice PJ pl.length pc)).cell? ⟨w.heap.size + 1, 4, none⟩ = some (.slice PJ pl.length pc) := ⟨(hk1 _ _ _ _).trans ((hk1 _ _ _ _).trans ((hk1 _ _ _ _).trans hcp.1)), (hk1 _ _ _ _).trans ((hk1 _ _ _ _).trans ((hk1 _ _ _ _).trans hcp.2.1)), (hk1 _ _ _ _).trans ((hk1 _ _ _ _).trans ((hk1 _ _ _ _).trans hcp.2.2))⟩
  have HCQ := Lib.hid (show ((((w6.setCell ⟨w.heap.size, 16, none⟩ (.bool true)).setCell ⟨w.heap.size, 17, none⟩ (.int .i64 p.err)).setCell ⟨w.heap.size, 18, none⟩ (.int .i64 p.time)).setCell ⟨w.heap.size, 19, none⟩ (.slice PJ pl.length pc)).drew.cell? ⟨w.heap.size + 1, 2, none⟩ = some (.int .i64 p.err) ∧ ((((w6.setCell ⟨w.heap.size, 16, none⟩ (.bool true)).setCell ⟨w.heap.size, 17, none⟩ (.int .i64 p.err)).setCell ⟨w.heap.size, 18, none⟩ (.int .i64 p.time)).setCell ⟨w.heap.size, 19, none⟩ (.slice PJ pl.length pc)).drew.cell? ⟨w.heap.size + 1, 3, none⟩ = some (.int .i64 p.time) ∧ ((((w6.setCell ⟨w.heap.size, 16, none⟩ (.bool true)).setCell ⟨w.heap.size, 17, none⟩ (.int .i64 p.err)).setCell ⟨w.heap.size, 18, none⟩ (.int .i64 p.time)).setCell ⟨w.heap.size, 19, none⟩ (.slice PJ pl.length pc)).drew.cell? ⟨w.heap.size + 1, 4, none⟩ = some (.slice PJ pl.length pc) from hcq)
  clear hcd hk1 hcp hcq
  go_region_held3 (fun w' => w'.cell? ⟨w.heap.size + 1, 2, none⟩ = some (.int .i64 p.err) ∧ w'.cell? ⟨w.heap.size + 1, 3, none⟩ = some (.int .i64 p.time) ∧ w'.cell? ⟨w.heap.size + 1, 4, none⟩ = some (.slice PJ pl.length pc))
    (first | with_reducible exact HCD.out | with_reducible exact HCP.out | with_reducible exact HCQ.out)
    (fail)
  have hset : ((((w6.setCell ⟨w.heap.size, 16, none⟩ (.bool true)).setCell ⟨w.heap.size, 17, none⟩ (.int .i64 p.err)).setCell ⟨w.heap.size, 18, none⟩ (.int .i64 p.time)).setCell ⟨w.heap.size, 19, none⟩ (.slice PJ pl.length pc)).drew.heap[w.heap.size]? = some (Rte.blk { r with done := true, err := p.err, time := p.time } (.slice A' r.map.sp.length cap') (.slice PJ pl.length pc)) := by
    have := (heap_setCell_at (i := 19) (heap_setCell_at (i := 18) (heap_setCell_at (i := 17) (heap_setCell_at (i := 16) HX6.out (.bool true)) (.int .i64 p.err)) (.int .i64 p.time)) ((.slice PJ pl.length pc)))
    refine (show _ = _ from this).trans ?_
    simp only [Rte.blk, List.setIfInBounds_toArray, List.set_cons_zero, List.set_cons_succ]
  have hon : Only (· = w.heap.size) w6 ((((w6.setCell ⟨w.heap.size, 16, none⟩ (.bool true)).setCell ⟨w.heap.size, 17, none⟩ (.int .i64 p.err)).setCell ⟨w.heap.size, 18, none⟩ (.int .i64 p.time)).setCell ⟨w.heap.size, 19, none⟩ (.slice PJ pl.length pc)).drew := ((((only_setCell w6 ⟨w.heap.size, 16, none⟩ (.bool true)).trans (only_setCell _ ⟨w.heap.size, 17, none⟩ (.int .i64 p.err)) (fun _ _ h => h)).trans (only_setCell _ ⟨w.heap.size, 18, none⟩ (.int .i64 p.time)) (fun _ _ h => h)).trans (only_setCell _ ⟨w.heap.size, 19, none⟩ ((.slice PJ pl.length pc))) (fun _ _ h => h)).trans (Only.of_below (F := (· = w.heap.size)) ((Below.refl _ _).drew)) (fun _ _ h => h)
  clear HCD HCP HCQ
  generalize ((((w6.setCell ⟨w.heap.size, 16, none⟩ (.bool true)).setCell ⟨w.heap.size, 17, none⟩ (.int .i64 p.err)).setCell ⟨w.heap.size, 18, none⟩ (.int .i64 p.time)).setCell ⟨w.heap.size, 19, none⟩ (.slice PJ pl.length pc)).drew = w7 at *
  have hs0 := Hs0.out
  have hR7 := (hon.block _ (lt_of_some HR6.out) (by show ¬ _ = w.heap.size; omega)).trans HR6.out
  have HI7 := Lib.hid (own_only HI6.out hon (fun k hk he => by have := (HI6.out.lt k hk).1; have he : k = w.heap.size := he; omega))
  have hB7 := hon.below HB6.out (fun k hk => by have hk : k = w.heap.size := hk; omega) HB6.out.size
  have hP7 := (hon.block _ (lt_of_some HP6.out) (by show ¬ _ = w.heap.size; omega)).trans HP6.out
  obtain ⟨⟨y0, y1, y2, y3, y4, ylt⟩, _⟩ := rep_cells hP7
  have HS7 := Lib.hid hset; have HR7 := Lib.hid hR7; have HB7 := Lib.hid hB7
  clear hset hon hR7 hs0 hB7 hP7
  clear c0 c1 c13 c14 c15 c16 clt c2 c3 c4 c5 c6 c7 c8 c9 c10 c11 c12 c17 c18 c19 q0 q1 q2 q3 q4 qlt q5 q6 q7 q8 q9 q10 q11 q12 q13 q14 q15 o16 olt f13 f14 f15 f16 f17 f18 f19
  go_upto_region 11 with (go_at_call 58
                          refine (cloneJ_any _ PJ pc pl ((HPJ.out.below HB7.out (Nat.le_refl _)).more HB7.out.size) hl3).mono ?_
                          rintro e w8 ⟨J2, jc2, rfl, ho8, hb8⟩
                          have hX8 := blk_below hb8 (lt_of_some HS7.out) HS7.out
                          have g19 := (rte_cells hX8).2.2.2.2
                          have k19 := fz_blk hX8 19
                          have HX8 := Lib.hid hX8; have HR8 := Lib.hid (blk_below hb8 (lt_of_some HR7.out) HR7.out)
                          have HI8 := Lib.hid (own_only HI7.out (Only.of_below (F := fun _ => False) hb8) (fun _ _ h => h))
                          have HO8 := Lib.hid ho8; have HB8 := Lib.hid (HB7.out.trans (hb8.mono HB7.out.size)); have Hz7 := Lib.hid HB7.out.size
                          have Hlt7 := Lib.hid (lt_of_some HR7.out)
                          clear hb8 ho8 hX8)
  have hset := rte_setjobs (j' := .slice J2 pl.length jc2) HX8.out
  have hon := only_setCell w8 ⟨w.heap.size, 19, none⟩ (.slice J2 pl.length jc2)
  have hs0 := Hs0.out
  have hlt7 := Hlt7.out
  have hR9 := (hon.block _ (lt_of_some HR8.out) (by show ¬ _ = w.heap.size; omega)).trans HR8.out
  have HI9 := Lib.hid (own_only HI8.out hon (fun k hk he => by have := (HI8.out.lt k hk).1; have he : k = w.heap.size := he; omega))
  have HJ9 := Lib.hid (own_only HO8.out hon (fun k hk he => by have := (HO8.out.lt k hk).1; have he : k = w.heap.size := he; omega))
  have HB9 := Lib.hid (hon.below HB8.out (fun k hk => by have hk : k = w.heap.size := hk; omega) HB8.out.size)
  have HS9 := Lib.hid hset; have HR9 := Lib.hid hR9
  clear hset hon hR9 hs0
  refine wp_region_lit ?_
  refine wpList_load39 rfl (.tmp 2) rfl w.heap.size rfl HS9.out ?_
  simp only [Act.put, List.setIfInBounds_toArray, List.set_cons_zero, List.set_cons_succ]
  refine wpList_store39 rfl (.tmp 4) (.tmp 50) rfl (w.heap.size + 1 + 1) rfl (r := { r with done := true, err := p.err, time := p.time }) (v := .slice A' r.map.sp.length cap') (j := .slice J2 pl.length jc2) rfl rfl rfl HR9.out ?_
  intro w19 h19 ho19
  simp only [Act.put, List.setIfInBounds_toArray, List.set_cons_zero, List.set_cons_succ]
  go_wp2
  refine bodyPost_ret (results39_one rfl _ _ (w.heap.size + 1 + 1) rfl h19) rfl ?_
  have hs0 := Hs0.out
  exact ⟨A', cap', J2, jc2, rfl, own_base (own_only HI9.out ho19 (fun k hk he => by have := (HI9.out.lt k hk).1; omega)) (by omega), own_base (own_only HJ9.out ho19 (fun k hk he => by have := (HJ9.out.lt k hk).1; omega)) (by omega), ho19.below HB9.out (fun k hk => by omega) HB9.out.size⟩
end Go.Proofs.Ytimondpollbdfaa
namespace Go.Proofs.Ytimondpollbdfaa
open Go.RowKit

/-- A way that lies in memory. -/
structure WayIn (w : World) (A : Option Addr) (cap : Nat) (J : Option Addr) (jc : Nat) (r : Rte) (l : List JobD) : Prop where
  map : MapIn w A cap r.map
  name : r.name.size ≤ 9223372036854775807
  spans : r.map.sp.length * 56 ≤ 140737488355328
  jobs : RowAt w w.heap.size 8 J (l.map JobD.cells)
  jn : l.length ≤ jc
  jm : jc ≤ 9223372036854775807
  jb : l.length * 96 ≤ 140737488355328
theorem WayIn.below {w w' : World} {A : Option Addr} {cap : Nat} {J : Option Addr} {jc : Nat} {r : Rte} {l : List JobD} (h : WayIn w A cap J jc r l) (hb : Below w.heap.size w w') : WayIn w' A cap J jc r l :=
  ⟨h.map.below hb, h.name, h.spans, (h.jobs.below hb (Nat.le_refl _)).more hb.size, h.jn, h.jm, h.jb⟩
/-- A reply that lies in memory. -/
structure RepIn (w : World) (K : Option Addr) (kc : Nat) (B : Option Addr) (bc : Nat) (p : Rep) (pl : List JobD) : Prop where
  map : MapIn w B bc p.map
  spans : p.map.sp.length * 56 ≤ 140737488355328
  jobs : RowAt w w.heap.size 8 K (pl.map JobD.cells)
  jn : pl.length ≤ kc
  jm : kc ≤ 9223372036854775807
  jb : pl.length * 96 ≤ 140737488355328
theorem RepIn.below {w w' : World} {K : Option Addr} {kc : Nat} {B : Option Addr} {bc : Nat} {p : Rep} {pl : List JobD} (h : RepIn w K kc B bc p pl) (hb : Below w.heap.size w w') : RepIn w' K kc B bc p pl :=
  ⟨h.map.below hb, h.spans, (h.jobs.below hb (Nat.le_refl _)).more hb.size, h.jn, h.jm, h.jb⟩
/-- A way does not lie in block g. -/
def OffW (g : Nat) (A J : Option Addr) (r : Rte) (l : List JobD) : Prop := (∀ a, A = some a → r.map.sp = [] ∨ a.block ≠ g) ∧ (∀ a, J = some a → l = [] ∨ a.block ≠ g)
theorem own_off {w : World} {base t size n cap : Nat} {A : Option Addr} {xs : List Value} (h : w.ownsRow base t size (.slice A n cap) n xs) {g : Nat} (hg : g < base) : ∀ a, A = some a → a.block ≠ g := by
  intro a ha
  rcases h.2 with ⟨h1, _⟩ | ⟨g', cap', cur, h1, hb, _⟩
  · injection h1 with h1; rw [ha] at h1; cases h1
  · injection h1 with h1
    rw [ha] at h1
    injection h1 with h1
    subst h1
    show g' ≠ g
    omega
theorem own_cap {w : World} {base t size n cap : Nat} {A : Option Addr} {xs : List Value} (h : w.ownsRow base t size (.slice A n cap) n xs) : n ≤ cap ∧ cap ≤ 9223372036854775807 := by
  rcases h.2 with ⟨h1, h2⟩ | ⟨g, cap', cur, h1, hb, hg, hc, hm, _⟩
  · injection h1 with _ _ h3; omega
  · injection h1 with _ _ h3
    subst h3
    unfold maxLen at hm
    exact ⟨hc, hm⟩
/-- What a reply makes of a way: the way, and its result's jobs. -/
noncomputable def heardR (r : Rte) (l : List JobD) (p : Rep) (pl : List JobD) : Rte × List JobD :=
  if tr (RteOk r) = false then (r, l) else if r.done = true then (r, l) else
    if p.kind = 2 ∧ r.fetch = false ∧ staleB p.err = false then ({ r with done := true, err := p.err, time := p.time }, pl) else
      if r.left = 1 then ({ turned r p with left := 0, done := true, fetch := false, err := 181, time := 0 }, []) else ({ turned r p with left := r.left - 1 }, l)
theorem heardR_wrong {r : Rte} {l : List JobD} {p : Rep} {pl : List JobD} (h : tr (RteOk r) = false) : heardR r l p pl = (r, l) := by unfold heardR; rw [if_pos h]
theorem heardR_over {r : Rte} {l : List JobD} {p : Rep} {pl : List JobD} (h : tr (RteOk r) = true) (hd : r.done = true) : heardR r l p pl = (r, l) := by unfold heardR; rw [if_neg (by rw [h]; decide), if_pos hd]
theorem heardR_answer {r : Rte} {l : List JobD} {p : Rep} {pl : List JobD} (h : tr (RteOk r) = true) (hd : r.done = false) (h1 : p.kind = 2) (h2 : r.fetch = false) (h3 : staleB p.err = false) : heardR r l p pl = ({ r with done := true, err := p.err, time := p.time }, pl) := by
  unfold heardR; rw [if_neg (by rw [h]; decide), if_neg (by rw [hd]; decide), if_pos ⟨h1, h2, h3⟩]
theorem heardR_last {r : Rte} {l : List JobD} {p : Rep} {pl : List JobD} (h : tr (RteOk r) = true) (hd : r.done = false) (h1 : ¬ (p.kind = 2 ∧ r.fetch = false ∧ staleB p.err = false)) (hl : r.left = 1) : heardR r l p pl = ({ turned r p with left := 0, done := true, fetch := false, err := 181, time := 0 }, []) := by
  unfold heardR; rw [if_neg (by rw [h]; decide), if_neg (by rw [hd]; decide), if_neg h1, if_pos hl]
theorem heardR_next {r : Rte} {l : List JobD} {p : Rep} {pl : List JobD} (h : tr (RteOk r) = true) (hd : r.done = false) (h1 : ¬ (p.kind = 2 ∧ r.fetch = false ∧ staleB p.err = false)) (hl : ¬ r.left = 1) : heardR r l p pl = ({ turned r p with left := r.left - 1 }, l) := by
  unfold heardR; rw [if_neg (by rw [h]; decide), if_neg (by rw [hd]; decide), if_neg h1, if_neg hl]
/-- A call of the program's Heard that makes the way R with the jobs L, in new memory. -/
def Made (w : World) (R : Rte) (L : List JobD) (e : Ending) (w' : World) : Prop :=
  ∃ A' cap' J' jc', e = .returned (R.val (.slice A' R.map.sp.length cap') (.slice J' L.length jc')) ∧ WayIn w' A' cap' J' jc' R L ∧ (∀ g, g < w.heap.size → OffW g A' J' R L) ∧ Below w.heap.size w w'
theorem made {w w' : World} {e : Ending} {A : Option Addr} {cap : Nat} {R : Rte} {L : List JobD} (hm : MapIn w A cap R.map) (hn : R.name.size ≤ 9223372036854775807) (hs : R.map.sp.length * 56 ≤ 140737488355328) (hb : L.length * 96 ≤ 140737488355328)
    (h : ∃ A' cap' J' jc', e = .returned (R.val (.slice A' R.map.sp.length cap') (.slice J' L.length jc')) ∧ w'.ownsRow w.heap.size 50 5 (.slice A' R.map.sp.length cap') R.map.sp.length (R.map.sp.map Span.cells).flatten ∧ w'.ownsRow w.heap.size 88 8 (.slice J' L.length jc') L.length (L.map JobD.cells).flatten ∧ Below w.heap.size w w') : Made w R L e w' := by
  obtain ⟨A', cap', J', jc', h1, h2, h3, h4⟩ := h
  exact ⟨A', cap', J', jc', h1, ⟨hm.ofOwn h2, hn, hs, rowAt_of_own h3 rfl (job_len _) (by simp), (own_cap h3).1, (own_cap h3).2, hb⟩, fun g hg => ⟨fun a ha => .inr (own_off h2 hg a ha), fun a ha => .inr (own_off h3 hg a ha)⟩, h4⟩
theorem made_last {w w' : World} {e : Ending} {A : Option Addr} {cap : Nat} {R : Rte} (hm : MapIn w A cap R.map) (hn : R.name.size ≤ 9223372036854775807) (hs : R.map.sp.length * 56 ≤ 140737488355328)
    (h : ∃ A' cap', e = .returned (R.val (.slice A' R.map.sp.length cap') nilV) ∧ w'.ownsRow w.heap.size 50 5 (.slice A' R.map.sp.length cap') R.map.sp.length (R.map.sp.map Span.cells).flatten ∧ Below w.heap.size w w') : Made w R [] e w' := by
  obtain ⟨A', cap', h1, h2, h4⟩ := h
  exact ⟨A', cap', none, 0, h1, ⟨hm.ofOwn h2, hn, hs, rowAt_nil _ _ _ _, Nat.le_refl _, by decide, by decide⟩, fun g hg => ⟨fun a ha => .inr (own_off h2 hg a ha), fun a ha => .inl rfl⟩, h4⟩
theorem heard33 (w : World) (A : Option Addr) (cap : Nat) (J : Option Addr) (jc : Nat) (r : Rte) (l : List JobD) (K : Option Addr) (kc : Nat) (B : Option Addr) (bc : Nat) (p : Rep) (pl : List JobD) (hr : WayIn w A cap J jc r l) (hp : RepIn w K kc B bc p pl) :
    Calls Try.prog 33 #[r.val (.slice A r.map.sp.length cap) (.slice J l.length jc), p.val (.slice K pl.length kc) (.slice B p.map.sp.length bc)] w (Made w (heardR r l p pl).1 (heardR r l p pl).2) := by
  obtain ⟨hm, hn, hs, hj, hjn, hjm, hjb⟩ := hr
  cases hv : tr (RteOk r)
  · rw [heardR_wrong hv]
    exact (heard_wrong w A J cap jc r l p _ _ hm hn hs hj hjb hv).mono fun e w' h => made hm hn hs hjb h
  cases hd : r.done
  rotate_left
  · rw [heardR_over hv hd]
    exact (heard_over w A J cap jc r l p _ _ hm hn hs hj hjb hv hd).mono fun e w' h => made hm hn hs hjb h
  by_cases ha : p.kind = 2 ∧ r.fetch = false ∧ staleB p.err = false
  · obtain ⟨h1, h2, h3⟩ := ha
    rw [heardR_answer hv hd h1 h2 h3]
    exact (heard_answer w A J K cap jc kc r l p pl _ hm hn hs hj hjb hv hd hp.jobs hp.jb h1 h2 h3).mono fun e w' h => made (R := { r with done := true, err := p.err, time := p.time }) hm hn hs hp.jb h
  have hst : p.kind = 2 → r.fetch = false → staleB p.err = true := fun h1 h2 => by
    cases h3 : staleB p.err
    · exact absurd ⟨h1, h2, h3⟩ ha
    · rfl
  by_cases hl : r.left = 1
  · rw [heardR_last hv hd ha hl]
    rcases tway r p with ⟨h1, h2, h⟩ | ⟨h1, h2, h⟩ | ⟨h1, h2, h⟩ | ⟨h1, h2, h3, h⟩ | ⟨h1, h2, h3, h⟩ | ⟨h1, h2, h⟩ | ⟨h1, h2, h3, h⟩ | ⟨h1, h2, h⟩ | ⟨h1, h2, h3, h4, h⟩ | ⟨h1, h2, h3, h⟩ <;> rw [h]
    · exact (heard_stale_last w A J cap jc r l p _ _ hm hn hs hj hjb hv hd h1 h2 (hst h1 h2) hl).mono fun e w' h => made_last (R := { ({ r with fetch := true, node := 1 } : Rte) with left := 0, done := true, fetch := false, err := 181, time := 0 }) hm hn hs h
    · exact (heard_keep2_last w A J cap jc r l p _ _ hm hn hs hj hjb hv hd h1 h2 hl).mono fun e w' h => made_last (R := { ({ r with node := r.node % r.nodes + 1 } : Rte) with left := 0, done := true, fetch := false, err := 181, time := 0 }) hm hn hs h
    · exact (heard_keep3a_last w A J cap jc r l p _ _ hm hn hs hj hjb hv hd h1 h2 hl).mono fun e w' h => made_last (R := { ({ r with node := r.node % r.nodes + 1 } : Rte) with left := 0, done := true, fetch := false, err := 181, time := 0 }) hm hn hs h
    · exact (heard_keep3b_last w A J B cap jc bc r l p _ hm hn hs hj hjb hv hd h1 h2 hp.map h3 hl).mono fun e w' h => made_last (R := { ({ r with node := r.node % r.nodes + 1 } : Rte) with left := 0, done := true, fetch := false, err := 181, time := 0 }) hm hn hs h
    · exact (heard_mapped_last w A J B cap jc bc r l p _ hm hn hs hj hjb hv hd hp.map h1 h2 h3 hl).mono fun e w' h => made_last (R := { ({ r with map := p.map, fetch := !named r.name, node := 1 } : Rte) with left := 0, done := true, fetch := false, err := 181, time := 0 }) hp.map hn hp.spans h
    · exact (heard_keep1a_last w A J cap jc r l p _ _ hm hn hs hj hjb hv hd h1 h2 hl).mono fun e w' h => made_last (R := { ({ r with node := r.node % r.nodes + 1 } : Rte) with left := 0, done := true, fetch := false, err := 181, time := 0 }) hm hn hs h
    · exact (heard_keep1b_last w A J cap jc r l p _ _ hm hn hs hj hjb hv hd h1 h2 h3 hl).mono fun e w' h => made_last (R := { ({ r with node := r.node % r.nodes + 1 } : Rte) with left := 0, done := true, fetch := false, err := 181, time := 0 }) hm hn hs h
    · exact (heard_keep1c_last w A J cap jc r l p _ _ hm hn hs hj hjb hv hd h1 h2 hl).mono fun e w' h => made_last (R := { ({ r with node := r.node % r.nodes + 1 } : Rte) with left := 0, done := true, fetch := false, err := 181, time := 0 }) hm hn hs h
    · exact (heard_redirect_last w A J cap jc r l p _ _ hm hn hs hj hjb hv hd h1 h2 h3 h4 hl).mono fun e w' h => made_last (R := { ({ r with node := p.hint } : Rte) with left := 0, done := true, fetch := false, err := 181, time := 0 }) hm hn hs h
    · exact (heard_next_last w A J cap jc r l p _ _ hm hn hs hj hjb hv hd h1 h2 h3 hl).mono fun e w' h => made_last (R := { ({ r with node := r.node % r.nodes + 1 } : Rte) with left := 0, done := true, fetch := false, err := 181, time := 0 }) hm hn hs h
  · rw [heardR_next hv hd ha hl]
    rcases tway r p with ⟨h1, h2, h⟩ | ⟨h1, h2, h⟩ | ⟨h1, h2, h⟩ | ⟨h1, h2, h3, h⟩ | ⟨h1, h2, h3, h⟩ | ⟨h1, h2, h⟩ | ⟨h1, h2, h3, h⟩ | ⟨h1, h2, h⟩ | ⟨h1, h2, h3, h4, h⟩ | ⟨h1, h2, h3, h⟩ <;> rw [h]
    · exact (heard_stale w A J cap jc r l p _ _ hm hn hs hj hjb hv hd h1 h2 (hst h1 h2) hl).mono fun e w' h => made (R := { ({ r with fetch := true, node := 1 } : Rte) with left := r.left - 1 }) hm hn hs hjb h
    · exact (heard_keep2 w A J cap jc r l p _ _ hm hn hs hj hjb hv hd h1 h2 hl).mono fun e w' h => made (R := { ({ r with node := r.node % r.nodes + 1 } : Rte) with left := r.left - 1 }) hm hn hs hjb h
    · exact (heard_keep3a w A J cap jc r l p _ _ hm hn hs hj hjb hv hd h1 h2 hl).mono fun e w' h => made (R := { ({ r with node := r.node % r.nodes + 1 } : Rte) with left := r.left - 1 }) hm hn hs hjb h
    · exact (heard_keep3b w A J B cap jc bc r l p _ hm hn hs hj hjb hv hd h1 h2 hp.map h3 hl).mono fun e w' h => made (R := { ({ r with node := r.node % r.nodes + 1 } : Rte) with left := r.left - 1 }) hm hn hs hjb h
    · exact (heard_mapped w A J B cap jc bc r l p _ hm hn hs hj hjb hv hd hp.map h1 h2 h3 hl).mono fun e w' h => made (R := { ({ r with map := p.map, fetch := !named r.name, node := 1 } : Rte) with left := r.left - 1 }) hp.map hn hp.spans hjb h
    · exact (heard_keep1a w A J cap jc r l p _ _ hm hn hs hj hjb hv hd h1 h2 hl).mono fun e w' h => made (R := { ({ r with node := r.node % r.nodes + 1 } : Rte) with left := r.left - 1 }) hm hn hs hjb h
    · exact (heard_keep1b w A J cap jc r l p _ _ hm hn hs hj hjb hv hd h1 h2 h3 hl).mono fun e w' h => made (R := { ({ r with node := r.node % r.nodes + 1 } : Rte) with left := r.left - 1 }) hm hn hs hjb h
    · exact (heard_keep1c w A J cap jc r l p _ _ hm hn hs hj hjb hv hd h1 h2 hl).mono fun e w' h => made (R := { ({ r with node := r.node % r.nodes + 1 } : Rte) with left := r.left - 1 }) hm hn hs hjb h
    · exact (heard_redirect w A J cap jc r l p _ _ hm hn hs hj hjb hv hd h1 h2 h3 h4 hl).mono fun e w' h => made (R := { ({ r with node := p.hint } : Rte) with left := r.left - 1 }) hm hn hs hjb h
    · exact (heard_next w A J cap jc r l p _ _ hm hn hs hj hjb hv hd h1 h2 h3 hl).mono fun e w' h => made (R := { ({ r with node := r.node % r.nodes + 1 } : Rte) with left := r.left - 1 }) hm hn hs hjb h
theorem heard34 (w : World) (A : Option Addr) (cap : Nat) (J : Option Addr) (jc : Nat) (r : Rte) (l : List JobD) (K : Option Addr) (kc : Nat) (B : Option Addr) (bc : Nat) (p : Rep) (pl : List JobD) (hr : WayIn w A cap J jc r l) (hp : RepIn w K kc B bc p pl) :
    Calls Try.prog 34 #[r.val (.slice A r.map.sp.length cap) (.slice J l.length jc), p.val (.slice K pl.length kc) (.slice B p.map.sp.length bc)] w fun e w' => ∃ A' cap' J' jc', e = .returned ((heardR r l p pl).1.val (.slice A' (heardR r l p pl).1.map.sp.length cap') (.slice J' (heardR r l p pl).2.length jc')) ∧ WayIn w' A' cap' J' jc' (heardR r l p pl).1 (heardR r l p pl).2 ∧ Below w.heap.size w w' := by
  obtain ⟨hm, hn, hs, hj, hjn, hjm, hjb⟩ := hr
  cases hv : tr (RteOk r)
  · rw [heardR_wrong hv]
    exact (rheard_wrong w A B cap bc r p _ _ rfl rfl hn hm hp.map hv).mono fun e w' h => ⟨A, cap, J, jc, h.1, (WayIn.mk hm hn hs hj hjn hjm hjb).below h.2, h.2⟩
  have hok := of_tr hv
  cases hd : r.done
  rotate_left
  · rw [heardR_over hv hd]
    exact (rheard_over w A B cap bc r p _ _ rfl rfl hn hm hp.map hok hd).mono fun e w' h => ⟨A, cap, J, jc, h.1, (WayIn.mk hm hn hs hj hjn hjm hjb).below h.2, h.2⟩
  by_cases ha : p.kind = 2 ∧ r.fetch = false ∧ staleB p.err = false
  · obtain ⟨h1, h2, h3⟩ := ha
    rw [heardR_answer hv hd h1 h2 h3]
    unfold staleB at h3
    simp only [Bool.or_eq_false_iff, beq_eq_false_iff_ne, ne_eq] at h3
    exact (rheard_answer w A B cap bc r p _ K pl.length kc rfl hn hm hp.map hok hd h1 h2 h3.1.2 h3.1.1 h3.2).mono fun e w' h => ⟨A, cap, K, kc, h.1, ⟨hm.below h.2, hn, hs, (hp.jobs.below h.2 (Nat.le_refl _)).more h.2.size, hp.jn, hp.jm, hp.jb⟩, h.2⟩
  have nx : ∀ {e : Ending} {w' : World}, (∃ A' cap', e = .returned (({ turned r p with left := r.left - 1 } : Rte).val (.slice A' (turned r p).map.sp.length cap') (.slice J l.length jc)) ∧ (A' = A ∧ cap' = cap ∧ (turned r p).map = r.map ∨ A' = B ∧ cap' = bc ∧ (turned r p).map = p.map)) ∧ Below w.heap.size w w' →
      ∃ A' cap' J' jc', e = .returned (({ turned r p with left := r.left - 1 } : Rte).val (.slice A' (turned r p).map.sp.length cap') (.slice J' l.length jc')) ∧ WayIn w' A' cap' J' jc' { turned r p with left := r.left - 1 } l ∧ Below w.heap.size w w' := by
    rintro e w' ⟨⟨A', cap', h1, h2⟩, h3⟩
    refine ⟨A', cap', J, jc, h1, ⟨?_, by rw [show ({ turned r p with left := r.left - 1 } : Rte).name = (turned r p).name from rfl, (turned_kept r p).2.2.2.1]; exact hn, ?_, (hj.below h3 (Nat.le_refl _)).more h3.size, hjn, hjm, hjb⟩, h3⟩
    · show MapIn w' A' cap' (turned r p).map
      rcases h2 with ⟨rfl, rfl, h⟩ | ⟨rfl, rfl, h⟩
      · rw [h]; exact hm.below h3
      · rw [h]; exact hp.map.below h3
    · show (turned r p).map.sp.length * 56 ≤ _
      rcases h2 with ⟨rfl, rfl, h⟩ | ⟨rfl, rfl, h⟩
      · rw [h]; exact hs
      · rw [h]; exact hp.spans
  have ls : ∀ {e : Ending} {w' : World}, (∃ A' cap', e = .returned (({ turned r p with left := 0, done := true, fetch := false, err := 181, time := 0 } : Rte).val (.slice A' (turned r p).map.sp.length cap') nilV) ∧ (A' = A ∧ cap' = cap ∧ (turned r p).map = r.map ∨ A' = B ∧ cap' = bc ∧ (turned r p).map = p.map)) ∧ Below w.heap.size w w' →
      ∃ A' cap' J' jc', e = .returned (({ turned r p with left := 0, done := true, fetch := false, err := 181, time := 0 } : Rte).val (.slice A' (turned r p).map.sp.length cap') (.slice J' ([] : List JobD).length jc')) ∧ WayIn w' A' cap' J' jc' { turned r p with left := 0, done := true, fetch := false, err := 181, time := 0 } [] ∧ Below w.heap.size w w' := by
    rintro e w' ⟨⟨A', cap', h1, h2⟩, h3⟩
    refine ⟨A', cap', none, 0, h1, ⟨?_, by rw [show ({ turned r p with left := 0, done := true, fetch := false, err := 181, time := 0 } : Rte).name = (turned r p).name from rfl, (turned_kept r p).2.2.2.1]; exact hn, ?_, rowAt_nil _ _ _ _, Nat.le_refl _, by decide, by decide⟩, h3⟩
    · show MapIn w' A' cap' (turned r p).map
      rcases h2 with ⟨rfl, rfl, h⟩ | ⟨rfl, rfl, h⟩
      · rw [h]; exact hm.below h3
      · rw [h]; exact hp.map.below h3
    · show (turned r p).map.sp.length * 56 ≤ _
      rcases h2 with ⟨rfl, rfl, h⟩ | ⟨rfl, rfl, h⟩
      · rw [h]; exact hs
      · rw [h]; exact hp.spans
  have hst : p.kind = 2 → r.fetch = false → staleB p.err = true := fun h1 h2 => by
    cases h3 : staleB p.err
    · exact absurd ⟨h1, h2, h3⟩ ha
    · rfl
  by_cases hl : r.left = 1
  · rw [heardR_last hv hd ha hl]
    by_cases k1 : p.kind = 2
    · cases k2 : r.fetch
      · have h3 := hst k1 k2
        unfold staleB at h3
        simp only [Bool.or_eq_true, beq_iff_eq] at h3
        rcases h3 with (h3 | h3) | h3
        · exact (rheard_d_last w A B cap bc r p _ _ rfl rfl hn hm hp.map hok hd k1 k2 h3 hl).mono fun e w' h => ls h
        · exact (rheard_c_last w A B cap bc r p _ _ rfl rfl hn hm hp.map hok hd k1 k2 h3 hl).mono fun e w' h => ls h
        · exact (rheard_e_last w A B cap bc r p _ _ rfl rfl hn hm hp.map hok hd k1 k2 h3 hl).mono fun e w' h => ls h
      · exact (rheard_b_last w A B cap bc r p _ _ rfl rfl hn hm hp.map hok hd k1 k2 hl).mono fun e w' h => ls h
    · exact (rheard_a_last w A B cap bc r p _ _ rfl rfl hn hm hp.map hok hd k1 hl).mono fun e w' h => ls h
  · rw [heardR_next hv hd ha hl]
    by_cases k1 : p.kind = 2
    · cases k2 : r.fetch
      · have h3 := hst k1 k2
        unfold staleB at h3
        simp only [Bool.or_eq_true, beq_iff_eq] at h3
        rcases h3 with (h3 | h3) | h3
        · exact (rheard_d w A B cap bc r p _ _ rfl rfl hn hm hp.map hok hd k1 k2 h3 hl).mono fun e w' h => nx h
        · exact (rheard_c w A B cap bc r p _ _ rfl rfl hn hm hp.map hok hd k1 k2 h3 hl).mono fun e w' h => nx h
        · exact (rheard_e w A B cap bc r p _ _ rfl rfl hn hm hp.map hok hd k1 k2 h3 hl).mono fun e w' h => nx h
      · exact (rheard_b w A B cap bc r p _ _ rfl rfl hn hm hp.map hok hd k1 k2 hl).mono fun e w' h => nx h
    · exact (rheard_a w A B cap bc r p _ _ rfl rfl hn hm hp.map hok hd k1 hl).mono fun e w' h => nx h
end Go.Proofs.Ytimondpollbdfaa
namespace Go.Proofs.Ytimondpollbdfaa
open Go.RowKit

theorem yields39 {ops : Array Oper} {S : World → Prop} {op : Oper} {a : Act} (hw : Region.wanted op (yielded ops a.tmps) = true) (x : Operand) (ho : op.op = .load 39 x) (g : Nat) (hx : a.eval x = .pointer (some ⟨g, 0, none⟩)) {r : Rte} {v j : Value} (hS : ∀ w, S w → w.heap[g]? = some (r.blk v j)) : YieldsIf Try.prog ops S op (r.val v j) a :=
  yieldsIf_load_mid hw 39 x ho g 0 hx _ _ (fun w h => rte_range (hS w h)) Try.underlying39 rfl info39
theorem yields59 {ops : Array Oper} {S : World → Prop} {op : Oper} {a : Act} (hw : Region.wanted op (yielded ops a.tmps) = true) (x : Operand) (ho : op.op = .load 59 x) (g : Nat) (hx : a.eval x = .pointer (some ⟨g, 0, none⟩)) {p : Rep} {j v : Value} (hS : ∀ w, S w → w.heap[g]? = some (p.blk j v)) : YieldsIf Try.prog ops S op (p.val j v) a :=
  yieldsIf_load_mid hw 59 x ho g 0 hx _ _ (fun w h => rep_range (hS w h)) Try.underlying59 rfl info59
end Go.Proofs.Ytimondpollbdfaa
