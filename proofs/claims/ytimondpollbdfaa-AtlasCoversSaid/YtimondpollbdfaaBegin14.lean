/- What is proved: what a plan that begins makes of a map: the program's Begin, by what its plan hands back. -/
import Derived.Test.YtimondpollbdfaaWhole
import Derived.Test.YtimondpollbdfaaClone
import Derived.Test.YtimondpollbdfaaPlanAny
set_option linter.unusedVariables false
set_option linter.unusedSimpArgs false
namespace Go.Proofs.Ytimondpollbdfaa
open Go.RowKit
attribute [local go_sem] Span.val Atl.val Plan.val

/-- The world behind the store of a whole plan into a map. -/
def putPlan (W : World) (g : Nat) (q : Plan) : World := ((((((((W.setCell ⟨g, 3, none⟩ (.int .i64 q.kind)).setCell ⟨g, 4, none⟩ (.int .i64 q.phase)).setCell ⟨g, 5, none⟩ (.int .i64 q.shard)).setCell ⟨g, 6, none⟩ (.int .i64 q.other)).setCell ⟨g, 7, none⟩ (.int .i64 q.group)).setCell ⟨g, 8, none⟩ (.int .i64 q.past)).setCell ⟨g, 9, none⟩ (.int .i64 q.epoch)).setCell ⟨g, 10, none⟩ (.string q.key))
theorem map_putPlan {W : World} {g : Nat} {a : Atl} {V : Value} (q : Plan) (h : W.heap[g]? = some (a.blk V)) : (putPlan W g q).heap[g]? = some ({ a with plan := q }.blk V) := by
  have := (heap_setCell_at (i := 10) (heap_setCell_at (i := 9) (heap_setCell_at (i := 8) (heap_setCell_at (i := 7) (heap_setCell_at (i := 6) (heap_setCell_at (i := 5) (heap_setCell_at (i := 4) (heap_setCell_at (i := 3) h (.int .i64 q.kind)) (.int .i64 q.phase)) (.int .i64 q.shard)) (.int .i64 q.other)) (.int .i64 q.group)) (.int .i64 q.past)) (.int .i64 q.epoch)) (.string q.key))
  unfold putPlan
  rw [this]
  simp only [Atl.blk, List.setIfInBounds_toArray, List.set_cons_zero, List.set_cons_succ]
theorem putPlan_only (W : World) (g : Nat) (q : Plan) : Only (· = g) W (putPlan W g q) := ((((((((only_setCell W ⟨g, 3, none⟩ (.int .i64 q.kind)).trans (only_setCell _ ⟨g, 4, none⟩ (.int .i64 q.phase)) (fun _ _ h => h)).trans (only_setCell _ ⟨g, 5, none⟩ (.int .i64 q.shard)) (fun _ _ h => h)).trans (only_setCell _ ⟨g, 6, none⟩ (.int .i64 q.other)) (fun _ _ h => h)).trans (only_setCell _ ⟨g, 7, none⟩ (.int .i64 q.group)) (fun _ _ h => h)).trans (only_setCell _ ⟨g, 8, none⟩ (.int .i64 q.past)) (fun _ _ h => h)).trans (only_setCell _ ⟨g, 9, none⟩ (.int .i64 q.epoch)) (fun _ _ h => h)).trans (only_setCell _ ⟨g, 10, none⟩ (.string q.key)) (fun _ _ h => h))
theorem map_frz {W : World} {g : Nat} {a : Atl} {V : Value} (h : W.heap[g]? = some (a.blk V)) (i : Nat) : W.frozen? ⟨g, i, none⟩ = false := fz_blk h i
theorem MapIn.replan {w : World} {A : Option Addr} {cap : Nat} {a : Atl} (h : MapIn w A cap a) (q : Plan) (hq : q.key.size ≤ 9223372036854775807) (l : Int) : MapIn w A cap { a with plan := q, last := l } := ⟨h.row, h.ncap, h.cmax, h.sz, hq⟩

set_option maxRecDepth 100000 in
set_option maxHeartbeats 4000000 in
theorem begin_wrong (w : World) (A : Option Addr) (cap : Nat) (a : Atl) (p : Plan) (h : MapIn w A cap a) (hm : tr (MapOk a) = false)  :
    Calls Try.prog 14 #[a.val (.slice A a.sp.length cap), p.val] w fun e w' => ∃ A' cap', e = .returned (.tuple #[zeroA.val (.slice A' zeroA.sp.length cap'), .int .i64 4]) ∧ MapIn w' A' cap' zeroA ∧ Below w.heap.size w w' := by
  have hck := fun w h => check_any w A cap a h
  rw [hm] at hck
  have Hck := Lib.hid hck; have HI := Lib.hid h
  clear hck h hm
  go_enter Try.func14, Try.ntmps14
  go_upto_region 1 with fail
  have hA0 : (((w.alloc (a.blk (.slice A a.sp.length cap))).alloc p.blk).alloc (zeroA.blk nilV)).heap[w.heap.size]? = some (a.blk (.slice A a.sp.length cap)) := (Below.heap_alloc _ _ _ (by simp; omega)).trans ((Below.heap_alloc _ _ _ (by simp)).trans (heap_alloc_new w _))
  have hP0 : (((w.alloc (a.blk (.slice A a.sp.length cap))).alloc p.blk).alloc (zeroA.blk nilV)).heap[w.heap.size + 1]? = some p.blk := (Below.heap_alloc _ _ _ (by simp)).trans (heap_second _ _ _)
  have hZ0 : (((w.alloc (a.blk (.slice A a.sp.length cap))).alloc p.blk).alloc (zeroA.blk nilV)).heap[w.heap.size + 1 + 1]? = some (zeroA.blk nilV) := by simpa using heap_alloc_new ((w.alloc (a.blk (.slice A a.sp.length cap))).alloc p.blk) (zeroA.blk nilV)
  have hB0 : Below w.heap.size w (((w.alloc (a.blk (.slice A a.sp.length cap))).alloc p.blk).alloc (zeroA.blk nilV)) := al3 _ _ _
  change Code.wp _ _ _ _ (((w.alloc (a.blk (.slice A a.sp.length cap))).alloc p.blk).alloc (zeroA.blk nilV))
  generalize ((w.alloc (a.blk (.slice A a.sp.length cap))).alloc p.blk).alloc (zeroA.blk nilV) = w0 at *
  have HA0 := Lib.hid hA0; have HP0 := Lib.hid hP0; have HZ0 := Lib.hid hZ0; have HB0 := Lib.hid hB0
  clear hA0 hP0 hZ0 hB0
  refine wp_region_lit ?_
  refine wpList_load26 rfl (.tmp 2) rfl (w.heap.size) rfl HA0.out ?_
  simp only [Act.put, List.setIfInBounds_toArray, List.set_cons_zero, List.set_cons_succ]
  go_upto_region 2 with (go_at_call 29
                         refine (Hck.out _ (HI.out.below HB0.out)).mono ?_
                         rintro e w1 ⟨rfl, hb1⟩
                         have HA1 := Lib.hid (blk_below hb1 (lt_of_some HA0.out) HA0.out)
                         have HP1 := Lib.hid (blk_below hb1 (lt_of_some HP0.out) HP0.out)
                         have HZ1 := Lib.hid (blk_below hb1 (lt_of_some HZ0.out) HZ0.out)
                         have HB1 := Lib.hid (HB0.out.trans (hb1.mono HB0.out.size))
                         clear hb1)
  refine wp_region_lit ?_
  refine wpList_step (fun K hK => ?_)
  go_simp
  refine hK _ _ ?_
  clear hK K
  refine wpList_store26 rfl (.tmp 4) (.tmp 12) rfl (w.heap.size + 1 + 1) rfl (m := zeroA) (v := nilV) (m0 := zeroA) (v0 := nilV) rfl rfl HZ1.out ?_
  intro w9 h9 ho9
  simp only [Act.put, List.setIfInBounds_toArray, List.set_cons_zero, List.set_cons_succ]
  go_wp2
  refine bodyPost_ret (results26 rfl _ _ (w.heap.size + 1 + 1) rfl h9) rfl ?_
  exact ⟨none, 0, rfl, ⟨rowAt_nil _ _ _ _, Nat.zero_le _, by decide, fun s hs => by simp [zeroA] at hs, by decide⟩, ho9.below HB1.out (fun k hk => by omega) HB1.out.size⟩
set_option maxRecDepth 100000 in
set_option maxHeartbeats 4000000 in
theorem begin_busy (w : World) (A : Option Addr) (cap : Nat) (a : Atl) (p : Plan) (x : Int) (h : MapIn w A cap a) (hm : tr (MapOk a) = true) (b0 : ¬ a.plan.kind = 0) (hp : place a.sp p.shard = x) :
    Calls Try.prog 14 #[a.val (.slice A a.sp.length cap), p.val] w fun e w' => ∃ A' cap', e = .returned (.tuple #[a.val (.slice A' a.sp.length cap'), .int .i64 180]) ∧ MapIn w' A' cap' a ∧ Below w.heap.size w w' := by
  have hck := fun w h => check_any w A cap a h
  rw [hm] at hck
  have hl3 : a.sp.length * 56 ≤ 140737488355328 := by have := (of_tr hm).2.2.2.1.1; omega
  have Hck := Lib.hid hck; have HI := Lib.hid h
  clear hck h hm
  have Hp := Lib.hid hp; clear hp
  have Hb0 := Lib.hid b0
  clear b0
  go_enter Try.func14, Try.ntmps14
  go_upto_region 1 with fail
  have hA0 : (((w.alloc (a.blk (.slice A a.sp.length cap))).alloc p.blk).alloc (zeroA.blk nilV)).heap[w.heap.size]? = some (a.blk (.slice A a.sp.length cap)) := (Below.heap_alloc _ _ _ (by simp; omega)).trans ((Below.heap_alloc _ _ _ (by simp)).trans (heap_alloc_new w _))
  have hP0 : (((w.alloc (a.blk (.slice A a.sp.length cap))).alloc p.blk).alloc (zeroA.blk nilV)).heap[w.heap.size + 1]? = some p.blk := (Below.heap_alloc _ _ _ (by simp)).trans (heap_second _ _ _)
  have hZ0 : (((w.alloc (a.blk (.slice A a.sp.length cap))).alloc p.blk).alloc (zeroA.blk nilV)).heap[w.heap.size + 1 + 1]? = some (zeroA.blk nilV) := by simpa using heap_alloc_new ((w.alloc (a.blk (.slice A a.sp.length cap))).alloc p.blk) (zeroA.blk nilV)
  have hB0 : Below w.heap.size w (((w.alloc (a.blk (.slice A a.sp.length cap))).alloc p.blk).alloc (zeroA.blk nilV)) := al3 _ _ _
  change Code.wp _ _ _ _ (((w.alloc (a.blk (.slice A a.sp.length cap))).alloc p.blk).alloc (zeroA.blk nilV))
  generalize ((w.alloc (a.blk (.slice A a.sp.length cap))).alloc p.blk).alloc (zeroA.blk nilV) = w0 at *
  have HA0 := Lib.hid hA0; have HP0 := Lib.hid hP0; have HZ0 := Lib.hid hZ0; have HB0 := Lib.hid hB0
  clear hA0 hP0 hZ0 hB0
  refine wp_region_lit ?_
  refine wpList_load26 rfl (.tmp 2) rfl (w.heap.size) rfl HA0.out ?_
  simp only [Act.put, List.setIfInBounds_toArray, List.set_cons_zero, List.set_cons_succ]
  go_upto_region 3 with (go_at_call 29
                         refine (Hck.out _ (HI.out.below HB0.out)).mono ?_
                         rintro e w1 ⟨rfl, hb1⟩
                         have HA1 := Lib.hid (blk_below hb1 (lt_of_some HA0.out) HA0.out)
                         have HP1 := Lib.hid (blk_below hb1 (lt_of_some HP0.out) HP0.out)
                         have HZ1 := Lib.hid (blk_below hb1 (lt_of_some HZ0.out) HZ0.out)
                         have HB1 := Lib.hid (HB0.out.trans (hb1.mono HB0.out.size))
                         clear hb1)
  refine wp_region_lit ?_
  refine wpList_load26 rfl (.tmp 2) rfl (w.heap.size) rfl HA1.out ?_
  simp only [Act.put, List.setIfInBounds_toArray, List.set_cons_zero, List.set_cons_succ]
  refine wpList_step (fun K hK => ?_)
  go_simp
  go_at_call 40
  refine (copied_any _ A cap a (HI.out.below HB1.out) hl3).mono ?_
  rintro e w2 ⟨A', cap', rfl, hO2, hI2, hb2⟩
  refine hK _ _ ?_
  clear hK K
  have hA2 := blk_below hb2 (lt_of_some HA1.out) HA1.out
  have HP2 := Lib.hid (blk_below hb2 (lt_of_some HP1.out) HP1.out)
  have HZ2 := Lib.hid (blk_below hb2 (lt_of_some HZ1.out) HZ1.out)
  have HB2 := Lib.hid (HB1.out.trans (hb2.mono HB1.out.size))
  refine wpList_store26 rfl (.tmp 2) (.tmp 14) rfl w.heap.size rfl (m := a) (v := .slice A' a.sp.length cap') (m0 := a) (v0 := .slice A a.sp.length cap) rfl rfl hA2 ?_
  intro w3 hA3 ho3
  simp only [Act.put, List.setIfInBounds_toArray, List.set_cons_zero, List.set_cons_succ]
  have hs1 : w.heap.size + 1 + 1 < w1.heap.size := lt_of_some HZ1.out
  have HO3 := Lib.hid (own_only hO2 ho3 (fun k hk he => by have := (hO2.lt k hk).1; have he : k = w.heap.size := he; omega))
  have hP3 := (ho3.block _ (lt_of_some HP2.out) (by show ¬ _ = _; omega)).trans HP2.out
  have HZ3 := Lib.hid ((ho3.block _ (lt_of_some HZ2.out) (by show ¬ _ = _; omega)).trans HZ2.out)
  have HB3 := Lib.hid (ho3.below HB2.out (fun k hk => by have hk : k = w.heap.size := hk; omega) HB2.out.size)
  obtain ⟨n0, n1, n2, n3, n4, n5, n6, n7, nlt⟩ := plan_blk hP3
  have HP3 := Lib.hid hP3; have HA3 := Lib.hid hA3
  clear hA2 hO2 hb2 hA3 ho3 hP3
  go_upto_region 4 with fail
  refine wp_region_lit ?_
  refine wpList_load26 rfl (.tmp 2) rfl (w.heap.size) rfl HA3.out ?_
  simp only [Act.put, List.setIfInBounds_toArray, List.set_cons_zero, List.set_cons_succ]
  go_upto_region 5 with (go_at_call 41
                         refine (place_any _ A' cap' a _ (MapIn.ofOwn HI.out HO3.out).row (Nat.le_trans (MapIn.ofOwn HI.out HO3.out).ncap (MapIn.ofOwn HI.out HO3.out).cmax)).mono ?_
                         rintro e w4 ⟨rfl, hb4⟩
                         rw [Hp.out]
                         have hA4 := blk_below hb4 (lt_of_some HA3.out) HA3.out
                         have hP4 := blk_below hb4 (lt_of_some HP3.out) HP3.out
                         have HZ4 := Lib.hid (blk_below hb4 (lt_of_some HZ3.out) HZ3.out)
                         have HB4 := Lib.hid (HB3.out.trans (hb4.mono HB3.out.size))
                         have HO4 := Lib.hid (own_only HO3.out (Only.of_below (F := fun _ => False) hb4) (fun _ _ h => h))
                         have HA4 := Lib.hid hA4; have HP4 := Lib.hid hP4
                         clear hb4 hA4 hP4)
  obtain ⟨m0, m1, m2, m3, m4, m5, m6, m7, m8, m9, m10, mlt⟩ := map_cells HA4.out
  clear n0 n1 n2 n3 n4 n5 n6 n7 nlt
  obtain ⟨n0, n1, n2, n3, n4, n5, n6, n7, nlt⟩ := plan_blk HP4.out
  have b0 := Hb0.out
  go_upto_region 6 with fail
  refine wp_region_lit ?_
  refine wpList_load26 rfl (.tmp 2) rfl (w.heap.size) rfl HA4.out ?_
  simp only [Act.put, List.setIfInBounds_toArray, List.set_cons_zero, List.set_cons_succ]
  refine wpList_store26 rfl (.tmp 4) (.tmp 24) rfl (w.heap.size + 1 + 1) rfl (m := a) (v := (.slice A' a.sp.length cap')) (m0 := zeroA) (v0 := nilV) rfl rfl HZ4.out ?_
  intro w9 h9 ho9
  simp only [Act.put, List.setIfInBounds_toArray, List.set_cons_zero, List.set_cons_succ]
  go_wp2
  refine bodyPost_ret (results26 rfl _ _ (w.heap.size + 1 + 1) rfl h9) rfl ?_
  have hB9 := ho9.below HB4.out (fun k hk => by omega) HB4.out.size
  exact ⟨A', cap', rfl, MapIn.ofOwn HI.out (own_only HO4.out ho9 (fun k hk he => by have := (HO4.out.lt k hk).1; omega)), hB9⟩
set_option maxRecDepth 100000 in
set_option maxHeartbeats 4000000 in
theorem begin_kind1 (w : World) (A : Option Addr) (cap : Nat) (a : Atl) (p : Plan) (x : Int) (h : MapIn w A cap a) (hm : tr (MapOk a) = true) (b0 : a.plan.kind = 0) (b1 : p.kind < 1) (hp : place a.sp p.shard = x) :
    Calls Try.prog 14 #[a.val (.slice A a.sp.length cap), p.val] w fun e w' => ∃ A' cap', e = .returned (.tuple #[a.val (.slice A' a.sp.length cap'), .int .i64 1]) ∧ MapIn w' A' cap' a ∧ Below w.heap.size w w' := by
  have hck := fun w h => check_any w A cap a h
  rw [hm] at hck
  have hl3 : a.sp.length * 56 ≤ 140737488355328 := by have := (of_tr hm).2.2.2.1.1; omega
  have Hck := Lib.hid hck; have HI := Lib.hid h
  clear hck h hm
  have Hp := Lib.hid hp; clear hp
  have Hb0 := Lib.hid b0
  have Hb1 := Lib.hid b1
  clear b0 b1
  go_enter Try.func14, Try.ntmps14
  go_upto_region 1 with fail
  have hA0 : (((w.alloc (a.blk (.slice A a.sp.length cap))).alloc p.blk).alloc (zeroA.blk nilV)).heap[w.heap.size]? = some (a.blk (.slice A a.sp.length cap)) := (Below.heap_alloc _ _ _ (by simp; omega)).trans ((Below.heap_alloc _ _ _ (by simp)).trans (heap_alloc_new w _))
  have hP0 : (((w.alloc (a.blk (.slice A a.sp.length cap))).alloc p.blk).alloc (zeroA.blk nilV)).heap[w.heap.size + 1]? = some p.blk := (Below.heap_alloc _ _ _ (by simp)).trans (heap_second _ _ _)
  have hZ0 : (((w.alloc (a.blk (.slice A a.sp.length cap))).alloc p.blk).alloc (zeroA.blk nilV)).heap[w.heap.size + 1 + 1]? = some (zeroA.blk nilV) := by simpa using heap_alloc_new ((w.alloc (a.blk (.slice A a.sp.length cap))).alloc p.blk) (zeroA.blk nilV)
  have hB0 : Below w.heap.size w (((w.alloc (a.blk (.slice A a.sp.length cap))).alloc p.blk).alloc (zeroA.blk nilV)) := al3 _ _ _
  change Code.wp _ _ _ _ (((w.alloc (a.blk (.slice A a.sp.length cap))).alloc p.blk).alloc (zeroA.blk nilV))
  generalize ((w.alloc (a.blk (.slice A a.sp.length cap))).alloc p.blk).alloc (zeroA.blk nilV) = w0 at *
  have HA0 := Lib.hid hA0; have HP0 := Lib.hid hP0; have HZ0 := Lib.hid hZ0; have HB0 := Lib.hid hB0
  clear hA0 hP0 hZ0 hB0
  refine wp_region_lit ?_
  refine wpList_load26 rfl (.tmp 2) rfl (w.heap.size) rfl HA0.out ?_
  simp only [Act.put, List.setIfInBounds_toArray, List.set_cons_zero, List.set_cons_succ]
  go_upto_region 3 with (go_at_call 29
                         refine (Hck.out _ (HI.out.below HB0.out)).mono ?_
                         rintro e w1 ⟨rfl, hb1⟩
                         have HA1 := Lib.hid (blk_below hb1 (lt_of_some HA0.out) HA0.out)
                         have HP1 := Lib.hid (blk_below hb1 (lt_of_some HP0.out) HP0.out)
                         have HZ1 := Lib.hid (blk_below hb1 (lt_of_some HZ0.out) HZ0.out)
                         have HB1 := Lib.hid (HB0.out.trans (hb1.mono HB0.out.size))
                         clear hb1)
  refine wp_region_lit ?_
  refine wpList_load26 rfl (.tmp 2) rfl (w.heap.size) rfl HA1.out ?_
  simp only [Act.put, List.setIfInBounds_toArray, List.set_cons_zero, List.set_cons_succ]
  refine wpList_step (fun K hK => ?_)
  go_simp
  go_at_call 40
  refine (copied_any _ A cap a (HI.out.below HB1.out) hl3).mono ?_
  rintro e w2 ⟨A', cap', rfl, hO2, hI2, hb2⟩
  refine hK _ _ ?_
  clear hK K
  have hA2 := blk_below hb2 (lt_of_some HA1.out) HA1.out
  have HP2 := Lib.hid (blk_below hb2 (lt_of_some HP1.out) HP1.out)
  have HZ2 := Lib.hid (blk_below hb2 (lt_of_some HZ1.out) HZ1.out)
  have HB2 := Lib.hid (HB1.out.trans (hb2.mono HB1.out.size))
  refine wpList_store26 rfl (.tmp 2) (.tmp 14) rfl w.heap.size rfl (m := a) (v := .slice A' a.sp.length cap') (m0 := a) (v0 := .slice A a.sp.length cap) rfl rfl hA2 ?_
  intro w3 hA3 ho3
  simp only [Act.put, List.setIfInBounds_toArray, List.set_cons_zero, List.set_cons_succ]
  have hs1 : w.heap.size + 1 + 1 < w1.heap.size := lt_of_some HZ1.out
  have HO3 := Lib.hid (own_only hO2 ho3 (fun k hk he => by have := (hO2.lt k hk).1; have he : k = w.heap.size := he; omega))
  have hP3 := (ho3.block _ (lt_of_some HP2.out) (by show ¬ _ = _; omega)).trans HP2.out
  have HZ3 := Lib.hid ((ho3.block _ (lt_of_some HZ2.out) (by show ¬ _ = _; omega)).trans HZ2.out)
  have HB3 := Lib.hid (ho3.below HB2.out (fun k hk => by have hk : k = w.heap.size := hk; omega) HB2.out.size)
  obtain ⟨n0, n1, n2, n3, n4, n5, n6, n7, nlt⟩ := plan_blk hP3
  have HP3 := Lib.hid hP3; have HA3 := Lib.hid hA3
  clear hA2 hO2 hb2 hA3 ho3 hP3
  go_upto_region 4 with fail
  refine wp_region_lit ?_
  refine wpList_load26 rfl (.tmp 2) rfl (w.heap.size) rfl HA3.out ?_
  simp only [Act.put, List.setIfInBounds_toArray, List.set_cons_zero, List.set_cons_succ]
  go_upto_region 5 with (go_at_call 41
                         refine (place_any _ A' cap' a _ (MapIn.ofOwn HI.out HO3.out).row (Nat.le_trans (MapIn.ofOwn HI.out HO3.out).ncap (MapIn.ofOwn HI.out HO3.out).cmax)).mono ?_
                         rintro e w4 ⟨rfl, hb4⟩
                         rw [Hp.out]
                         have hA4 := blk_below hb4 (lt_of_some HA3.out) HA3.out
                         have hP4 := blk_below hb4 (lt_of_some HP3.out) HP3.out
                         have HZ4 := Lib.hid (blk_below hb4 (lt_of_some HZ3.out) HZ3.out)
                         have HB4 := Lib.hid (HB3.out.trans (hb4.mono HB3.out.size))
                         have HO4 := Lib.hid (own_only HO3.out (Only.of_below (F := fun _ => False) hb4) (fun _ _ h => h))
                         have HA4 := Lib.hid hA4; have HP4 := Lib.hid hP4
                         clear hb4 hA4 hP4)
  obtain ⟨m0, m1, m2, m3, m4, m5, m6, m7, m8, m9, m10, mlt⟩ := map_cells HA4.out
  clear n0 n1 n2 n3 n4 n5 n6 n7 nlt
  obtain ⟨n0, n1, n2, n3, n4, n5, n6, n7, nlt⟩ := plan_blk HP4.out
  have b0 := Hb0.out
  have b1 := Hb1.out
  go_upto_region 8 with fail
  refine wp_region_lit ?_
  refine wpList_load26 rfl (.tmp 2) rfl (w.heap.size) rfl HA4.out ?_
  simp only [Act.put, List.setIfInBounds_toArray, List.set_cons_zero, List.set_cons_succ]
  refine wpList_store26 rfl (.tmp 4) (.tmp 34) rfl (w.heap.size + 1 + 1) rfl (m := a) (v := (.slice A' a.sp.length cap')) (m0 := zeroA) (v0 := nilV) rfl rfl HZ4.out ?_
  intro w9 h9 ho9
  simp only [Act.put, List.setIfInBounds_toArray, List.set_cons_zero, List.set_cons_succ]
  go_wp2
  refine bodyPost_ret (results26 rfl _ _ (w.heap.size + 1 + 1) rfl h9) rfl ?_
  have hB9 := ho9.below HB4.out (fun k hk => by omega) HB4.out.size
  exact ⟨A', cap', rfl, MapIn.ofOwn HI.out (own_only HO4.out ho9 (fun k hk he => by have := (HO4.out.lt k hk).1; omega)), hB9⟩
set_option maxRecDepth 100000 in
set_option maxHeartbeats 4000000 in
theorem begin_kind2 (w : World) (A : Option Addr) (cap : Nat) (a : Atl) (p : Plan) (x : Int) (h : MapIn w A cap a) (hm : tr (MapOk a) = true) (b0 : a.plan.kind = 0) (b1 : ¬ p.kind < 1) (b2 : 3 < p.kind) (hp : place a.sp p.shard = x) :
    Calls Try.prog 14 #[a.val (.slice A a.sp.length cap), p.val] w fun e w' => ∃ A' cap', e = .returned (.tuple #[a.val (.slice A' a.sp.length cap'), .int .i64 1]) ∧ MapIn w' A' cap' a ∧ Below w.heap.size w w' := by
  have hck := fun w h => check_any w A cap a h
  rw [hm] at hck
  have hl3 : a.sp.length * 56 ≤ 140737488355328 := by have := (of_tr hm).2.2.2.1.1; omega
  have Hck := Lib.hid hck; have HI := Lib.hid h
  clear hck h hm
  have Hp := Lib.hid hp; clear hp
  have Hb0 := Lib.hid b0
  have Hb1 := Lib.hid b1
  have Hb2 := Lib.hid b2
  clear b0 b1 b2
  go_enter Try.func14, Try.ntmps14
  go_upto_region 1 with fail
  have hA0 : (((w.alloc (a.blk (.slice A a.sp.length cap))).alloc p.blk).alloc (zeroA.blk nilV)).heap[w.heap.size]? = some (a.blk (.slice A a.sp.length cap)) := (Below.heap_alloc _ _ _ (by simp; omega)).trans ((Below.heap_alloc _ _ _ (by simp)).trans (heap_alloc_new w _))
  have hP0 : (((w.alloc (a.blk (.slice A a.sp.length cap))).alloc p.blk).alloc (zeroA.blk nilV)).heap[w.heap.size + 1]? = some p.blk := (Below.heap_alloc _ _ _ (by simp)).trans (heap_second _ _ _)
  have hZ0 : (((w.alloc (a.blk (.slice A a.sp.length cap))).alloc p.blk).alloc (zeroA.blk nilV)).heap[w.heap.size + 1 + 1]? = some (zeroA.blk nilV) := by simpa using heap_alloc_new ((w.alloc (a.blk (.slice A a.sp.length cap))).alloc p.blk) (zeroA.blk nilV)
  have hB0 : Below w.heap.size w (((w.alloc (a.blk (.slice A a.sp.length cap))).alloc p.blk).alloc (zeroA.blk nilV)) := al3 _ _ _
  change Code.wp _ _ _ _ (((w.alloc (a.blk (.slice A a.sp.length cap))).alloc p.blk).alloc (zeroA.blk nilV))
  generalize ((w.alloc (a.blk (.slice A a.sp.length cap))).alloc p.blk).alloc (zeroA.blk nilV) = w0 at *
  have HA0 := Lib.hid hA0; have HP0 := Lib.hid hP0; have HZ0 := Lib.hid hZ0; have HB0 := Lib.hid hB0
  clear hA0 hP0 hZ0 hB0
  refine wp_region_lit ?_
  refine wpList_load26 rfl (.tmp 2) rfl (w.heap.size) rfl HA0.out ?_
  simp only [Act.put, List.setIfInBounds_toArray, List.set_cons_zero, List.set_cons_succ]
  go_upto_region 3 with (go_at_call 29
                         refine (Hck.out _ (HI.out.below HB0.out)).mono ?_
                         rintro e w1 ⟨rfl, hb1⟩
                         have HA1 := Lib.hid (blk_below hb1 (lt_of_some HA0.out) HA0.out)
                         have HP1 := Lib.hid (blk_below hb1 (lt_of_some HP0.out) HP0.out)
                         have HZ1 := Lib.hid (blk_below hb1 (lt_of_some HZ0.out) HZ0.out)
                         have HB1 := Lib.hid (HB0.out.trans (hb1.mono HB0.out.size))
                         clear hb1)
  refine wp_region_lit ?_
  refine wpList_load26 rfl (.tmp 2) rfl (w.heap.size) rfl HA1.out ?_
  simp only [Act.put, List.setIfInBounds_toArray, List.set_cons_zero, List.set_cons_succ]
  refine wpList_step (fun K hK => ?_)
  go_simp
  go_at_call 40
  refine (copied_any _ A cap a (HI.out.below HB1.out) hl3).mono ?_
  rintro e w2 ⟨A', cap', rfl, hO2, hI2, hb2⟩
  refine hK _ _ ?_
  clear hK K
  have hA2 := blk_below hb2 (lt_of_some HA1.out) HA1.out
  have HP2 := Lib.hid (blk_below hb2 (lt_of_some HP1.out) HP1.out)
  have HZ2 := Lib.hid (blk_below hb2 (lt_of_some HZ1.out) HZ1.out)
  have HB2 := Lib.hid (HB1.out.trans (hb2.mono HB1.out.size))
  refine wpList_store26 rfl (.tmp 2) (.tmp 14) rfl w.heap.size rfl (m := a) (v := .slice A' a.sp.length cap') (m0 := a) (v0 := .slice A a.sp.length cap) rfl rfl hA2 ?_
  intro w3 hA3 ho3
  simp only [Act.put, List.setIfInBounds_toArray, List.set_cons_zero, List.set_cons_succ]
  have hs1 : w.heap.size + 1 + 1 < w1.heap.size := lt_of_some HZ1.out
  have HO3 := Lib.hid (own_only hO2 ho3 (fun k hk he => by have := (hO2.lt k hk).1; have he : k = w.heap.size := he; omega))
  have hP3 := (ho3.block _ (lt_of_some HP2.out) (by show ¬ _ = _; omega)).trans HP2.out
  have HZ3 := Lib.hid ((ho3.block _ (lt_of_some HZ2.out) (by show ¬ _ = _; omega)).trans HZ2.out)
  have HB3 := Lib.hid (ho3.below HB2.out (fun k hk => by have hk : k = w.heap.size := hk; omega) HB2.out.size)
  obtain ⟨n0, n1, n2, n3, n4, n5, n6, n7, nlt⟩ := plan_blk hP3
  have HP3 := Lib.hid hP3; have HA3 := Lib.hid hA3
  clear hA2 hO2 hb2 hA3 ho3 hP3
  go_upto_region 4 with fail
  refine wp_region_lit ?_
  refine wpList_load26 rfl (.tmp 2) rfl (w.heap.size) rfl HA3.out ?_
  simp only [Act.put, List.setIfInBounds_toArray, List.set_cons_zero, List.set_cons_succ]
  go_upto_region 5 with (go_at_call 41
                         refine (place_any _ A' cap' a _ (MapIn.ofOwn HI.out HO3.out).row (Nat.le_trans (MapIn.ofOwn HI.out HO3.out).ncap (MapIn.ofOwn HI.out HO3.out).cmax)).mono ?_
                         rintro e w4 ⟨rfl, hb4⟩
                         rw [Hp.out]
                         have hA4 := blk_below hb4 (lt_of_some HA3.out) HA3.out
                         have hP4 := blk_below hb4 (lt_of_some HP3.out) HP3.out
                         have HZ4 := Lib.hid (blk_below hb4 (lt_of_some HZ3.out) HZ3.out)
                         have HB4 := Lib.hid (HB3.out.trans (hb4.mono HB3.out.size))
                         have HO4 := Lib.hid (own_only HO3.out (Only.of_below (F := fun _ => False) hb4) (fun _ _ h => h))
                         have HA4 := Lib.hid hA4; have HP4 := Lib.hid hP4
                         clear hb4 hA4 hP4)
  obtain ⟨m0, m1, m2, m3, m4, m5, m6, m7, m8, m9, m10, mlt⟩ := map_cells HA4.out
  clear n0 n1 n2 n3 n4 n5 n6 n7 nlt
  obtain ⟨n0, n1, n2, n3, n4, n5, n6, n7, nlt⟩ := plan_blk HP4.out
  have b0 := Hb0.out
  have b1 := Hb1.out
  have b2 := Hb2.out
  go_upto_region 8 with fail
  refine wp_region_lit ?_
  refine wpList_load26 rfl (.tmp 2) rfl (w.heap.size) rfl HA4.out ?_
  simp only [Act.put, List.setIfInBounds_toArray, List.set_cons_zero, List.set_cons_succ]
  refine wpList_store26 rfl (.tmp 4) (.tmp 34) rfl (w.heap.size + 1 + 1) rfl (m := a) (v := (.slice A' a.sp.length cap')) (m0 := zeroA) (v0 := nilV) rfl rfl HZ4.out ?_
  intro w9 h9 ho9
  simp only [Act.put, List.setIfInBounds_toArray, List.set_cons_zero, List.set_cons_succ]
  go_wp2
  refine bodyPost_ret (results26 rfl _ _ (w.heap.size + 1 + 1) rfl h9) rfl ?_
  have hB9 := ho9.below HB4.out (fun k hk => by omega) HB4.out.size
  exact ⟨A', cap', rfl, MapIn.ofOwn HI.out (own_only HO4.out ho9 (fun k hk he => by have := (HO4.out.lt k hk).1; omega)), hB9⟩
set_option maxRecDepth 100000 in
set_option maxHeartbeats 4000000 in
theorem begin_none (w : World) (A : Option Addr) (cap : Nat) (a : Atl) (p : Plan) (h : MapIn w A cap a) (hm : tr (MapOk a) = true) (b0 : a.plan.kind = 0) (b1 : ¬ p.kind < 1) (b2 : ¬ 3 < p.kind) (hp : place a.sp p.shard = -1) :
    Calls Try.prog 14 #[a.val (.slice A a.sp.length cap), p.val] w fun e w' => ∃ A' cap', e = .returned (.tuple #[a.val (.slice A' a.sp.length cap'), .int .i64 172]) ∧ MapIn w' A' cap' a ∧ Below w.heap.size w w' := by
  have hck := fun w h => check_any w A cap a h
  rw [hm] at hck
  have hl3 : a.sp.length * 56 ≤ 140737488355328 := by have := (of_tr hm).2.2.2.1.1; omega
  have Hck := Lib.hid hck; have HI := Lib.hid h
  clear hck h hm
  have Hp := Lib.hid hp; clear hp
  have Hb0 := Lib.hid b0
  have Hb1 := Lib.hid b1
  have Hb2 := Lib.hid b2
  clear b0 b1 b2
  go_enter Try.func14, Try.ntmps14
  go_upto_region 1 with fail
  have hA0 : (((w.alloc (a.blk (.slice A a.sp.length cap))).alloc p.blk).alloc (zeroA.blk nilV)).heap[w.heap.size]? = some (a.blk (.slice A a.sp.length cap)) := (Below.heap_alloc _ _ _ (by simp; omega)).trans ((Below.heap_alloc _ _ _ (by simp)).trans (heap_alloc_new w _))
  have hP0 : (((w.alloc (a.blk (.slice A a.sp.length cap))).alloc p.blk).alloc (zeroA.blk nilV)).heap[w.heap.size + 1]? = some p.blk := (Below.heap_alloc _ _ _ (by simp)).trans (heap_second _ _ _)
  have hZ0 : (((w.alloc (a.blk (.slice A a.sp.length cap))).alloc p.blk).alloc (zeroA.blk nilV)).heap[w.heap.size + 1 + 1]? = some (zeroA.blk nilV) := by simpa using heap_alloc_new ((w.alloc (a.blk (.slice A a.sp.length cap))).alloc p.blk) (zeroA.blk nilV)
  have hB0 : Below w.heap.size w (((w.alloc (a.blk (.slice A a.sp.length cap))).alloc p.blk).alloc (zeroA.blk nilV)) := al3 _ _ _
  change Code.wp _ _ _ _ (((w.alloc (a.blk (.slice A a.sp.length cap))).alloc p.blk).alloc (zeroA.blk nilV))
  generalize ((w.alloc (a.blk (.slice A a.sp.length cap))).alloc p.blk).alloc (zeroA.blk nilV) = w0 at *
  have HA0 := Lib.hid hA0; have HP0 := Lib.hid hP0; have HZ0 := Lib.hid hZ0; have HB0 := Lib.hid hB0
  clear hA0 hP0 hZ0 hB0
  refine wp_region_lit ?_
  refine wpList_load26 rfl (.tmp 2) rfl (w.heap.size) rfl HA0.out ?_
  simp only [Act.put, List.setIfInBounds_toArray, List.set_cons_zero, List.set_cons_succ]
  go_upto_region 3 with (go_at_call 29
                         refine (Hck.out _ (HI.out.below HB0.out)).mono ?_
                         rintro e w1 ⟨rfl, hb1⟩
                         have HA1 := Lib.hid (blk_below hb1 (lt_of_some HA0.out) HA0.out)
                         have HP1 := Lib.hid (blk_below hb1 (lt_of_some HP0.out) HP0.out)
                         have HZ1 := Lib.hid (blk_below hb1 (lt_of_some HZ0.out) HZ0.out)
                         have HB1 := Lib.hid (HB0.out.trans (hb1.mono HB0.out.size))
                         clear hb1)
  refine wp_region_lit ?_
  refine wpList_load26 rfl (.tmp 2) rfl (w.heap.size) rfl HA1.out ?_
  simp only [Act.put, List.setIfInBounds_toArray, List.set_cons_zero, List.set_cons_succ]
  refine wpList_step (fun K hK => ?_)
  go_simp
  go_at_call 40
  refine (copied_any _ A cap a (HI.out.below HB1.out) hl3).mono ?_
  rintro e w2 ⟨A', cap', rfl, hO2, hI2, hb2⟩
  refine hK _ _ ?_
  clear hK K
  have hA2 := blk_below hb2 (lt_of_some HA1.out) HA1.out
  have HP2 := Lib.hid (blk_below hb2 (lt_of_some HP1.out) HP1.out)
  have HZ2 := Lib.hid (blk_below hb2 (lt_of_some HZ1.out) HZ1.out)
  have HB2 := Lib.hid (HB1.out.trans (hb2.mono HB1.out.size))
  refine wpList_store26 rfl (.tmp 2) (.tmp 14) rfl w.heap.size rfl (m := a) (v := .slice A' a.sp.length cap') (m0 := a) (v0 := .slice A a.sp.length cap) rfl rfl hA2 ?_
  intro w3 hA3 ho3
  simp only [Act.put, List.setIfInBounds_toArray, List.set_cons_zero, List.set_cons_succ]
  have hs1 : w.heap.size + 1 + 1 < w1.heap.size := lt_of_some HZ1.out
  have HO3 := Lib.hid (own_only hO2 ho3 (fun k hk he => by have := (hO2.lt k hk).1; have he : k = w.heap.size := he; omega))
  have hP3 := (ho3.block _ (lt_of_some HP2.out) (by show ¬ _ = _; omega)).trans HP2.out
  have HZ3 := Lib.hid ((ho3.block _ (lt_of_some HZ2.out) (by show ¬ _ = _; omega)).trans HZ2.out)
  have HB3 := Lib.hid (ho3.below HB2.out (fun k hk => by have hk : k = w.heap.size := hk; omega) HB2.out.size)
  obtain ⟨n0, n1, n2, n3, n4, n5, n6, n7, nlt⟩ := plan_blk hP3
  have HP3 := Lib.hid hP3; have HA3 := Lib.hid hA3
  clear hA2 hO2 hb2 hA3 ho3 hP3
  go_upto_region 4 with fail
  refine wp_region_lit ?_
  refine wpList_load26 rfl (.tmp 2) rfl (w.heap.size) rfl HA3.out ?_
  simp only [Act.put, List.setIfInBounds_toArray, List.set_cons_zero, List.set_cons_succ]
  go_upto_region 5 with (go_at_call 41
                         refine (place_any _ A' cap' a _ (MapIn.ofOwn HI.out HO3.out).row (Nat.le_trans (MapIn.ofOwn HI.out HO3.out).ncap (MapIn.ofOwn HI.out HO3.out).cmax)).mono ?_
                         rintro e w4 ⟨rfl, hb4⟩
                         rw [Hp.out]
                         have hA4 := blk_below hb4 (lt_of_some HA3.out) HA3.out
                         have hP4 := blk_below hb4 (lt_of_some HP3.out) HP3.out
                         have HZ4 := Lib.hid (blk_below hb4 (lt_of_some HZ3.out) HZ3.out)
                         have HB4 := Lib.hid (HB3.out.trans (hb4.mono HB3.out.size))
                         have HO4 := Lib.hid (own_only HO3.out (Only.of_below (F := fun _ => False) hb4) (fun _ _ h => h))
                         have HA4 := Lib.hid hA4; have HP4 := Lib.hid hP4
                         clear hb4 hA4 hP4)
  obtain ⟨m0, m1, m2, m3, m4, m5, m6, m7, m8, m9, m10, mlt⟩ := map_cells HA4.out
  clear n0 n1 n2 n3 n4 n5 n6 n7 nlt
  obtain ⟨n0, n1, n2, n3, n4, n5, n6, n7, nlt⟩ := plan_blk HP4.out
  have b0 := Hb0.out
  have b1 := Hb1.out
  have b2 := Hb2.out
  go_upto_region 10 with fail
  refine wp_region_lit ?_
  refine wpList_load26 rfl (.tmp 2) rfl (w.heap.size) rfl HA4.out ?_
  simp only [Act.put, List.setIfInBounds_toArray, List.set_cons_zero, List.set_cons_succ]
  refine wpList_store26 rfl (.tmp 4) (.tmp 38) rfl (w.heap.size + 1 + 1) rfl (m := a) (v := (.slice A' a.sp.length cap')) (m0 := zeroA) (v0 := nilV) rfl rfl HZ4.out ?_
  intro w9 h9 ho9
  simp only [Act.put, List.setIfInBounds_toArray, List.set_cons_zero, List.set_cons_succ]
  go_wp2
  refine bodyPost_ret (results26 rfl _ _ (w.heap.size + 1 + 1) rfl h9) rfl ?_
  have hB9 := ho9.below HB4.out (fun k hk => by omega) HB4.out.size
  exact ⟨A', cap', rfl, MapIn.ofOwn HI.out (own_only HO4.out ho9 (fun k hk he => by have := (HO4.out.lt k hk).1; omega)), hB9⟩
set_option maxRecDepth 100000 in
set_option maxHeartbeats 4000000 in
theorem begin_fault (w : World) (A : Option Addr) (cap : Nat) (a : Atl) (p : Plan) (h : MapIn w A cap a) (hm : tr (MapOk a) = true)  (k : Nat) (q : Plan) (n : Int) (hkl : k < a.sp.length) (hp : place a.sp p.shard = (k : Int)) (hpl : ∀ w A cap, MapIn w A cap a → Calls Try.prog 42 #[a.val (.slice A a.sp.length cap), .int .i64 (k : Int), p.val] w fun e w' => e = .returned (.tuple #[q.val, .int .i64 n]) ∧ Below w.heap.size w w') (b0 : a.plan.kind = 0) (b1 : ¬ p.kind < 1) (b2 : ¬ 3 < p.kind) (gn : ¬ n = 0) (gn2 : (n == 0) = false) :
    Calls Try.prog 14 #[a.val (.slice A a.sp.length cap), p.val] w fun e w' => ∃ A' cap', e = .returned (.tuple #[a.val (.slice A' a.sp.length cap'), .int .i64 n]) ∧ MapIn w' A' cap' a ∧ Below w.heap.size w w' := by
  have hck := fun w h => check_any w A cap a h
  rw [hm] at hck
  have hl3 : a.sp.length * 56 ≤ 140737488355328 := by have := (of_tr hm).2.2.2.1.1; omega
  have Hck := Lib.hid hck; have HI := Lib.hid h
  clear hck h hm
  have Hp := Lib.hid hp; have Hpl := Lib.hid hpl; clear hp hpl
  have Hb0 := Lib.hid b0
  have Hb1 := Lib.hid b1
  have Hb2 := Lib.hid b2
  have Hgn := Lib.hid gn
  have Hgn2 := Lib.hid gn2
  clear b0 b1 b2 gn gn2
  have hk0 : ¬ (k : Int) < 0 := by omega
  go_enter Try.func14, Try.ntmps14
  go_upto_region 1 with fail
  have hA0 : (((w.alloc (a.blk (.slice A a.sp.length cap))).alloc p.blk).alloc (zeroA.blk nilV)).heap[w.heap.size]? = some (a.blk (.slice A a.sp.length cap)) := (Below.heap_alloc _ _ _ (by simp; omega)).trans ((Below.heap_alloc _ _ _ (by simp)).trans (heap_alloc_new w _))
  have hP0 : (((w.alloc (a.blk (.slice A a.sp.length cap))).alloc p.blk).alloc (zeroA.blk nilV)).heap[w.heap.size + 1]? = some p.blk := (Below.heap_alloc _ _ _ (by simp)).trans (heap_second _ _ _)
  have hZ0 : (((w.alloc (a.blk (.slice A a.sp.length cap))).alloc p.blk).alloc (zeroA.blk nilV)).heap[w.heap.size + 1 + 1]? = some (zeroA.blk nilV) := by simpa using heap_alloc_new ((w.alloc (a.blk (.slice A a.sp.length cap))).alloc p.blk) (zeroA.blk nilV)
  have hB0 : Below w.heap.size w (((w.alloc (a.blk (.slice A a.sp.length cap))).alloc p.blk).alloc (zeroA.blk nilV)) := al3 _ _ _
  change Code.wp _ _ _ _ (((w.alloc (a.blk (.slice A a.sp.length cap))).alloc p.blk).alloc (zeroA.blk nilV))
  generalize ((w.alloc (a.blk (.slice A a.sp.length cap))).alloc p.blk).alloc (zeroA.blk nilV) = w0 at *
  have HA0 := Lib.hid hA0; have HP0 := Lib.hid hP0; have HZ0 := Lib.hid hZ0; have HB0 := Lib.hid hB0
  clear hA0 hP0 hZ0 hB0
  refine wp_region_lit ?_
  refine wpList_load26 rfl (.tmp 2) rfl (w.heap.size) rfl HA0.out ?_
  simp only [Act.put, List.setIfInBounds_toArray, List.set_cons_zero, List.set_cons_succ]
  go_upto_region 3 with (go_at_call 29
                         refine (Hck.out _ (HI.out.below HB0.out)).mono ?_
                         rintro e w1 ⟨rfl, hb1⟩
                         have HA1 := Lib.hid (blk_below hb1 (lt_of_some HA0.out) HA0.out)
                         have HP1 := Lib.hid (blk_below hb1 (lt_of_some HP0.out) HP0.out)
                         have HZ1 := Lib.hid (blk_below hb1 (lt_of_some HZ0.out) HZ0.out)
                         have HB1 := Lib.hid (HB0.out.trans (hb1.mono HB0.out.size))
                         clear hb1)
  refine wp_region_lit ?_
  refine wpList_load26 rfl (.tmp 2) rfl (w.heap.size) rfl HA1.out ?_
  simp only [Act.put, List.setIfInBounds_toArray, List.set_cons_zero, List.set_cons_succ]
  refine wpList_step (fun K hK => ?_)
  go_simp
  go_at_call 40
  refine (copied_any _ A cap a (HI.out.below HB1.out) hl3).mono ?_
  rintro e w2 ⟨A', cap', rfl, hO2, hI2, hb2⟩
  refine hK _ _ ?_
  clear hK K
  have hA2 := blk_below hb2 (lt_of_some HA1.out) HA1.out
  have HP2 := Lib.hid (blk_below hb2 (lt_of_some HP1.out) HP1.out)
  have HZ2 := Lib.hid (blk_below hb2 (lt_of_some HZ1.out) HZ1.out)
  have HB2 := Lib.hid (HB1.out.trans (hb2.mono HB1.out.size))
  refine wpList_store26 rfl (.tmp 2) (.tmp 14) rfl w.heap.size rfl (m := a) (v := .slice A' a.sp.length cap') (m0 := a) (v0 := .slice A a.sp.length cap) rfl rfl hA2 ?_
  intro w3 hA3 ho3
  simp only [Act.put, List.setIfInBounds_toArray, List.set_cons_zero, List.set_cons_succ]
  have hs1 : w.heap.size + 1 + 1 < w1.heap.size := lt_of_some HZ1.out
  have HO3 := Lib.hid (own_only hO2 ho3 (fun k hk he => by have := (hO2.lt k hk).1; have he : k = w.heap.size := he; omega))
  have hP3 := (ho3.block _ (lt_of_some HP2.out) (by show ¬ _ = _; omega)).trans HP2.out
  have HZ3 := Lib.hid ((ho3.block _ (lt_of_some HZ2.out) (by show ¬ _ = _; omega)).trans HZ2.out)
  have HB3 := Lib.hid (ho3.below HB2.out (fun k hk => by have hk : k = w.heap.size := hk; omega) HB2.out.size)
  obtain ⟨n0, n1, n2, n3, n4, n5, n6, n7, nlt⟩ := plan_blk hP3
  have HP3 := Lib.hid hP3; have HA3 := Lib.hid hA3
  clear hA2 hO2 hb2 hA3 ho3 hP3
  go_upto_region 4 with fail
  refine wp_region_lit ?_
  refine wpList_load26 rfl (.tmp 2) rfl (w.heap.size) rfl HA3.out ?_
  simp only [Act.put, List.setIfInBounds_toArray, List.set_cons_zero, List.set_cons_succ]
  go_upto_region 5 with (go_at_call 41
                         refine (place_any _ A' cap' a _ (MapIn.ofOwn HI.out HO3.out).row (Nat.le_trans (MapIn.ofOwn HI.out HO3.out).ncap (MapIn.ofOwn HI.out HO3.out).cmax)).mono ?_
                         rintro e w4 ⟨rfl, hb4⟩
                         rw [Hp.out]
                         have hA4 := blk_below hb4 (lt_of_some HA3.out) HA3.out
                         have hP4 := blk_below hb4 (lt_of_some HP3.out) HP3.out
                         have HZ4 := Lib.hid (blk_below hb4 (lt_of_some HZ3.out) HZ3.out)
                         have HB4 := Lib.hid (HB3.out.trans (hb4.mono HB3.out.size))
                         have HO4 := Lib.hid (own_only HO3.out (Only.of_below (F := fun _ => False) hb4) (fun _ _ h => h))
                         have HA4 := Lib.hid hA4; have HP4 := Lib.hid hP4
                         clear hb4 hA4 hP4)
  obtain ⟨m0, m1, m2, m3, m4, m5, m6, m7, m8, m9, m10, mlt⟩ := map_cells HA4.out
  clear n0 n1 n2 n3 n4 n5 n6 n7 nlt
  obtain ⟨n0, n1, n2, n3, n4, n5, n6, n7, nlt⟩ := plan_blk HP4.out
  have b0 := Hb0.out
  have b1 := Hb1.out
  have b2 := Hb2.out
  go_upto_region 11 with fail
  clear b0 b1 b2
  refine wp_region_lit ?_
  refine wpList_load26 rfl (.tmp 2) rfl (w.heap.size) rfl HA4.out ?_
  simp only [Act.put, List.setIfInBounds_toArray, List.set_cons_zero, List.set_cons_succ]
  refine wpList_step (fun K hK => ?_)
  go_simp
  refine hK _ _ ?_
  clear hK K
  refine wpList_load24 rfl (.tmp 3) rfl (w.heap.size + 1) rfl HP4.out ?_
  simp only [Act.put, List.setIfInBounds_toArray, List.set_cons_zero, List.set_cons_succ]
  refine wpList_step (fun K hK => ?_)
  go_simp
  go_at_call 42
  refine (Hpl.out _ A' cap' (MapIn.ofOwn HI.out HO4.out)).mono ?_
  rintro e w5 ⟨rfl, hb5⟩
  refine hK _ _ ?_
  clear hK K
  refine wpList_step (fun K hK => ?_)
  go_simp
  refine hK _ _ ?_
  clear hK K
  refine wpList_step (fun K hK => ?_)
  go_simp
  refine hK _ _ ?_
  clear hK K
  refine wpList_step (fun K hK => ?_)
  go_simp
  refine hK _ _ ?_
  clear hK K
  refine wpList_step (fun K hK => ?_)
  go_simp
  refine hK _ _ ?_
  clear hK K
  refine wpList_store24 rfl (.tmp 7) (.tmp 44) rfl w5.heap.size rfl (p := q) (p0 := zeroP) rfl (heap_alloc_new w5 _) ?_
  intro w6 hQ6 ho6
  simp only [Act.put, List.setIfInBounds_toArray, List.set_cons_zero, List.set_cons_succ]
  have hb : Below w5.heap.size w5 w6 := ho6.below (al _) (fun k hk => by omega) (by simp)
  have hl6 : w5.heap.size < w6.heap.size := lt_of_some hQ6
  have hb6 := hb5.trans (hb.mono hb5.size)
  have hA6 := blk_below hb6 (lt_of_some HA4.out) HA4.out
  have HZ6 := Lib.hid (blk_below hb6 (lt_of_some HZ4.out) HZ4.out)
  have HB6 := Lib.hid (HB4.out.trans (hb6.mono HB4.out.size))
  have HO6 := Lib.hid (own_only HO4.out (Only.of_below (F := fun _ => False) hb6) (fun _ _ h => h))
  have hne : w.heap.size ≠ w5.heap.size := by have := hb5.size; have := lt_of_some HA4.out; omega
  have hne2 : w5.heap.size ≠ w.heap.size := Ne.symm hne
  clear m0 m1 m2 m3 m4 m5 m6 m7 m8 m9 m10 mlt
  obtain ⟨m0, m1, m2, m3, m4, m5, m6, m7, m8, m9, m10, mlt⟩ := map_cells hA6
  obtain ⟨q0, q1, q2, q3, q4, q5, q6, q7, qlt⟩ := plan_blk hQ6
  have z1 := map_frz hA6 1; have z3 := map_frz hA6 3; have z4 := map_frz hA6 4; have z5 := map_frz hA6 5; have z6 := map_frz hA6 6; have z7 := map_frz hA6 7; have z8 := map_frz hA6 8; have z9 := map_frz hA6 9; have z10 := map_frz hA6 10
  have HA6 := Lib.hid hA6; have HQ6 := Lib.hid hQ6
  clear hb5 hb hb6 hA6 hQ6 ho6
  have gn := Hgn.out
  have gn2 := Hgn2.out
  go_upto_region 13 with fail
  refine wp_region_lit ?_
  refine wpList_load26 rfl (.tmp 2) rfl (w.heap.size) rfl HA6.out ?_
  simp only [Act.put, List.setIfInBounds_toArray, List.set_cons_zero, List.set_cons_succ]
  refine wpList_step (fun K hK => ?_)
  go_simp
  refine hK _ _ ?_
  clear hK K
  refine wpList_store26 rfl (.tmp 4) (.tmp 48) rfl (w.heap.size + 1 + 1) rfl (m := a) (v := (.slice A' a.sp.length cap')) (m0 := zeroA) (v0 := nilV) rfl rfl HZ6.out ?_
  intro w9 h9 ho9
  simp only [Act.put, List.setIfInBounds_toArray, List.set_cons_zero, List.set_cons_succ]
  go_wp2
  refine bodyPost_ret (results26 rfl _ _ (w.heap.size + 1 + 1) rfl h9) rfl ?_
  have hB9 := ho9.below HB6.out (fun k hk => by omega) HB6.out.size
  exact ⟨A', cap', rfl, MapIn.ofOwn HI.out (own_only HO6.out ho9 (fun k hk he => by have := (HO6.out.lt k hk).1; omega)), hB9⟩
set_option maxRecDepth 100000 in
set_option maxHeartbeats 4000000 in
theorem begin_plain (w : World) (A : Option Addr) (cap : Nat) (a : Atl) (p : Plan) (h : MapIn w A cap a) (hm : tr (MapOk a) = true)  (k : Nat) (q : Plan) (hkl : k < a.sp.length) (hp : place a.sp p.shard = (k : Int)) (hpl : ∀ w A cap, MapIn w A cap a → Calls Try.prog 42 #[a.val (.slice A a.sp.length cap), .int .i64 (k : Int), p.val] w fun e w' => e = .returned (.tuple #[q.val, .int .i64 0]) ∧ Below w.heap.size w w') (hqk : q.key.size ≤ 9223372036854775807) (b0 : a.plan.kind = 0) (b1 : ¬ p.kind < 1) (b2 : ¬ 3 < p.kind) (gq : ¬ q.kind = 2) (gq2 : (q.kind == 2) = false) :
    Calls Try.prog 14 #[a.val (.slice A a.sp.length cap), p.val] w fun e w' => ∃ A' cap', e = .returned (.tuple #[{ a with plan := q }.val (.slice A' { a with plan := q }.sp.length cap'), .int .i64 0]) ∧ MapIn w' A' cap' { a with plan := q } ∧ Below w.heap.size w w' := by
  have hck := fun w h => check_any w A cap a h
  rw [hm] at hck
  have hl3 : a.sp.length * 56 ≤ 140737488355328 := by have := (of_tr hm).2.2.2.1.1; omega
  have Hck := Lib.hid hck; have HI := Lib.hid h
  clear hck h hm
  have Hp := Lib.hid hp; have Hpl := Lib.hid hpl; clear hp hpl
  have Hb0 := Lib.hid b0
  have Hb1 := Lib.hid b1
  have Hb2 := Lib.hid b2
  have Hgq := Lib.hid gq
  have Hgq2 := Lib.hid gq2
  clear b0 b1 b2 gq gq2
  have hk0 : ¬ (k : Int) < 0 := by omega
  go_enter Try.func14, Try.ntmps14
  go_upto_region 1 with fail
  have hA0 : (((w.alloc (a.blk (.slice A a.sp.length cap))).alloc p.blk).alloc (zeroA.blk nilV)).heap[w.heap.size]? = some (a.blk (.slice A a.sp.length cap)) := (Below.heap_alloc _ _ _ (by simp; omega)).trans ((Below.heap_alloc _ _ _ (by simp)).trans (heap_alloc_new w _))
  have hP0 : (((w.alloc (a.blk (.slice A a.sp.length cap))).alloc p.blk).alloc (zeroA.blk nilV)).heap[w.heap.size + 1]? = some p.blk := (Below.heap_alloc _ _ _ (by simp)).trans (heap_second _ _ _)
  have hZ0 : (((w.alloc (a.blk (.slice A a.sp.length cap))).alloc p.blk).alloc (zeroA.blk nilV)).heap[w.heap.size + 1 + 1]? = some (zeroA.blk nilV) := by simpa using heap_alloc_new ((w.alloc (a.blk (.slice A a.sp.length cap))).alloc p.blk) (zeroA.blk nilV)
  have hB0 : Below w.heap.size w (((w.alloc (a.blk (.slice A a.sp.length cap))).alloc p.blk).alloc (zeroA.blk nilV)) := al3 _ _ _
  change Code.wp _ _ _ _ (((w.alloc (a.blk (.slice A a.sp.length cap))).alloc p.blk).alloc (zeroA.blk nilV))
  generalize ((w.alloc (a.blk (.slice A a.sp.length cap))).alloc p.blk).alloc (zeroA.blk nilV) = w0 at *
  have HA0 := Lib.hid hA0; have HP0 := Lib.hid hP0; have HZ0 := Lib.hid hZ0; have HB0 := Lib.hid hB0
  clear hA0 hP0 hZ0 hB0
  refine wp_region_lit ?_
  refine wpList_load26 rfl (.tmp 2) rfl (w.heap.size) rfl HA0.out ?_
  simp only [Act.put, List.setIfInBounds_toArray, List.set_cons_zero, List.set_cons_succ]
  go_upto_region 3 with (go_at_call 29
                         refine (Hck.out _ (HI.out.below HB0.out)).mono ?_
                         rintro e w1 ⟨rfl, hb1⟩
                         have HA1 := Lib.hid (blk_below hb1 (lt_of_some HA0.out) HA0.out)
                         have HP1 := Lib.hid (blk_below hb1 (lt_of_some HP0.out) HP0.out)
                         have HZ1 := Lib.hid (blk_below hb1 (lt_of_some HZ0.out) HZ0.out)
                         have HB1 := Lib.hid (HB0.out.trans (hb1.mono HB0.out.size))
                         clear hb1)
  refine wp_region_lit ?_
  refine wpList_load26 rfl (.tmp 2) rfl (w.heap.size) rfl HA1.out ?_
  simp only [Act.put, List.setIfInBounds_toArray, List.set_cons_zero, List.set_cons_succ]
  refine wpList_step (fun K hK => ?_)
  go_simp
  go_at_call 40
  refine (copied_any _ A cap a (HI.out.below HB1.out) hl3).mono ?_
  rintro e w2 ⟨A', cap', rfl, hO2, hI2, hb2⟩
  refine hK _ _ ?_
  clear hK K
  have hA2 := blk_below hb2 (lt_of_some HA1.out) HA1.out
  have HP2 := Lib.hid (blk_below hb2 (lt_of_some HP1.out) HP1.out)
  have HZ2 := Lib.hid (blk_below hb2 (lt_of_some HZ1.out) HZ1.out)
  have HB2 := Lib.hid (HB1.out.trans (hb2.mono HB1.out.size))
  refine wpList_store26 rfl (.tmp 2) (.tmp 14) rfl w.heap.size rfl (m := a) (v := .slice A' a.sp.length cap') (m0 := a) (v0 := .slice A a.sp.length cap) rfl rfl hA2 ?_
  intro w3 hA3 ho3
  simp only [Act.put, List.setIfInBounds_toArray, List.set_cons_zero, List.set_cons_succ]
  have hs1 : w.heap.size + 1 + 1 < w1.heap.size := lt_of_some HZ1.out
  have HO3 := Lib.hid (own_only hO2 ho3 (fun k hk he => by have := (hO2.lt k hk).1; have he : k = w.heap.size := he; omega))
  have hP3 := (ho3.block _ (lt_of_some HP2.out) (by show ¬ _ = _; omega)).trans HP2.out
  have HZ3 := Lib.hid ((ho3.block _ (lt_of_some HZ2.out) (by show ¬ _ = _; omega)).trans HZ2.out)
  have HB3 := Lib.hid (ho3.below HB2.out (fun k hk => by have hk : k = w.heap.size := hk; omega) HB2.out.size)
  obtain ⟨n0, n1, n2, n3, n4, n5, n6, n7, nlt⟩ := plan_blk hP3
  have HP3 := Lib.hid hP3; have HA3 := Lib.hid hA3
  clear hA2 hO2 hb2 hA3 ho3 hP3
  go_upto_region 4 with fail
  refine wp_region_lit ?_
  refine wpList_load26 rfl (.tmp 2) rfl (w.heap.size) rfl HA3.out ?_
  simp only [Act.put, List.setIfInBounds_toArray, List.set_cons_zero, List.set_cons_succ]
  go_upto_region 5 with (go_at_call 41
                         refine (place_any _ A' cap' a _ (MapIn.ofOwn HI.out HO3.out).row (Nat.le_trans (MapIn.ofOwn HI.out HO3.out).ncap (MapIn.ofOwn HI.out HO3.out).cmax)).mono ?_
                         rintro e w4 ⟨rfl, hb4⟩
                         rw [Hp.out]
                         have hA4 := blk_below hb4 (lt_of_some HA3.out) HA3.out
                         have hP4 := blk_below hb4 (lt_of_some HP3.out) HP3.out
                         have HZ4 := Lib.hid (blk_below hb4 (lt_of_some HZ3.out) HZ3.out)
                         have HB4 := Lib.hid (HB3.out.trans (hb4.mono HB3.out.size))
                         have HO4 := Lib.hid (own_only HO3.out (Only.of_below (F := fun _ => False) hb4) (fun _ _ h => h))
                         have HA4 := Lib.hid hA4; have HP4 := Lib.hid hP4
                         clear hb4 hA4 hP4)
  obtain ⟨m0, m1, m2, m3, m4, m5, m6, m7, m8, m9, m10, mlt⟩ := map_cells HA4.out
  clear n0 n1 n2 n3 n4 n5 n6 n7 nlt
  obtain ⟨n0, n1, n2, n3, n4, n5, n6, n7, nlt⟩ := plan_blk HP4.out
  have b0 := Hb0.out
  have b1 := Hb1.out
  have b2 := Hb2.out
  go_upto_region 11 with fail
  clear b0 b1 b2
  refine wp_region_lit ?_
  refine wpList_load26 rfl (.tmp 2) rfl (w.heap.size) rfl HA4.out ?_
  simp only [Act.put, List.setIfInBounds_toArray, List.set_cons_zero, List.set_cons_succ]
  refine wpList_step (fun K hK => ?_)
  go_simp
  refine hK _ _ ?_
  clear hK K
  refine wpList_load24 rfl (.tmp 3) rfl (w.heap.size + 1) rfl HP4.out ?_
  simp only [Act.put, List.setIfInBounds_toArray, List.set_cons_zero, List.set_cons_succ]
  refine wpList_step (fun K hK => ?_)
  go_simp
  go_at_call 42
  refine (Hpl.out _ A' cap' (MapIn.ofOwn HI.out HO4.out)).mono ?_
  rintro e w5 ⟨rfl, hb5⟩
  refine hK _ _ ?_
  clear hK K
  refine wpList_step (fun K hK => ?_)
  go_simp
  refine hK _ _ ?_
  clear hK K
  refine wpList_step (fun K hK => ?_)
  go_simp
  refine hK _ _ ?_
  clear hK K
  refine wpList_step (fun K hK => ?_)
  go_simp
  refine hK _ _ ?_
  clear hK K
  refine wpList_step (fun K hK => ?_)
  go_simp
  refine hK _ _ ?_
  clear hK K
  refine wpList_store24 rfl (.tmp 7) (.tmp 44) rfl w5.heap.size rfl (p := q) (p0 := zeroP) rfl (heap_alloc_new w5 _) ?_
  intro w6 hQ6 ho6
  simp only [Act.put, List.setIfInBounds_toArray, List.set_cons_zero, List.set_cons_succ]
  have hb : Below w5.heap.size w5 w6 := ho6.below (al _) (fun k hk => by omega) (by simp)
  have hl6 : w5.heap.size < w6.heap.size := lt_of_some hQ6
  have hb6 := hb5.trans (hb.mono hb5.size)
  have hA6 := blk_below hb6 (lt_of_some HA4.out) HA4.out
  have HZ6 := Lib.hid (blk_below hb6 (lt_of_some HZ4.out) HZ4.out)
  have HB6 := Lib.hid (HB4.out.trans (hb6.mono HB4.out.size))
  have HO6 := Lib.hid (own_only HO4.out (Only.of_below (F := fun _ => False) hb6) (fun _ _ h => h))
  have hne : w.heap.size ≠ w5.heap.size := by have := hb5.size; have := lt_of_some HA4.out; omega
  have hne2 : w5.heap.size ≠ w.heap.size := Ne.symm hne
  clear m0 m1 m2 m3 m4 m5 m6 m7 m8 m9 m10 mlt
  obtain ⟨m0, m1, m2, m3, m4, m5, m6, m7, m8, m9, m10, mlt⟩ := map_cells hA6
  obtain ⟨q0, q1, q2, q3, q4, q5, q6, q7, qlt⟩ := plan_blk hQ6
  have z1 := map_frz hA6 1; have z3 := map_frz hA6 3; have z4 := map_frz hA6 4; have z5 := map_frz hA6 5; have z6 := map_frz hA6 6; have z7 := map_frz hA6 7; have z8 := map_frz hA6 8; have z9 := map_frz hA6 9; have z10 := map_frz hA6 10
  have HA6 := Lib.hid hA6; have HQ6 := Lib.hid hQ6
  clear hb5 hb hb6 hA6 hQ6 ho6
  have gq := Hgq.out
  have gq2 := Hgq2.out
  go_upto_region 14 with fail
  refine wp_region_lit ?_
  refine wpList_load24 rfl (.tmp 7) rfl (w5.heap.size) rfl HQ6.out ?_
  simp only [Act.put, List.setIfInBounds_toArray, List.set_cons_zero, List.set_cons_succ]
  go_upto_region 17 with fail
  have hA7 : (putPlan w6 w.heap.size q).heap[w.heap.size]? = some (Atl.blk { a with plan := q } (.slice A' a.sp.length cap')) := by
    have := (map_putPlan q HA6.out)
    rw [this]
  have hon : Only (· = w.heap.size) w6 (putPlan w6 w.heap.size q) := (putPlan_only w6 w.heap.size q)
  have HZ7 := Lib.hid ((hon.block _ (lt_of_some HZ6.out) (by show ¬ _ = _; omega)).trans HZ6.out)
  have HB7 := Lib.hid (hon.below HB6.out (fun k hk => by have hk : k = w.heap.size := hk; omega) HB6.out.size)
  have HO7 := Lib.hid (own_only HO6.out hon (fun k hk he => by have := (HO6.out.lt k hk).1; have he : k = w.heap.size := he; omega))
  have HA7 := Lib.hid hA7
  clear hA7 hon
  refine wp_region_lit ?_
  refine wpList_load26 rfl (.tmp 2) rfl (w.heap.size) rfl HA7.out ?_
  simp only [Act.put, List.setIfInBounds_toArray, List.set_cons_zero, List.set_cons_succ]
  refine wpList_store26 rfl (.tmp 4) (.tmp 59) rfl (w.heap.size + 1 + 1) rfl (m := { a with plan := q }) (v := (.slice A' a.sp.length cap')) (m0 := zeroA) (v0 := nilV) rfl rfl HZ7.out ?_
  intro w9 h9 ho9
  simp only [Act.put, List.setIfInBounds_toArray, List.set_cons_zero, List.set_cons_succ]
  go_wp2
  refine bodyPost_ret (results26 rfl _ _ (w.heap.size + 1 + 1) rfl h9) rfl ?_
  have hB9 := ho9.below HB7.out (fun k hk => by omega) HB7.out.size
  exact ⟨A', cap', rfl, (MapIn.ofOwn HI.out (own_only HO7.out ho9 (fun k hk he => by have := (HO7.out.lt k hk).1; omega))).replan q hqk _, hB9⟩
set_option maxRecDepth 100000 in
set_option maxHeartbeats 4000000 in
theorem begin_parts (w : World) (A : Option Addr) (cap : Nat) (a : Atl) (p : Plan) (h : MapIn w A cap a) (hm : tr (MapOk a) = true)  (k : Nat) (q : Plan) (hkl : k < a.sp.length) (hp : place a.sp p.shard = (k : Int)) (hpl : ∀ w A cap, MapIn w A cap a → Calls Try.prog 42 #[a.val (.slice A a.sp.length cap), .int .i64 (k : Int), p.val] w fun e w' => e = .returned (.tuple #[q.val, .int .i64 0]) ∧ Below w.heap.size w w') (hqk : q.key.size ≤ 9223372036854775807) (b0 : a.plan.kind = 0) (b1 : ¬ p.kind < 1) (b2 : ¬ 3 < p.kind) (gq : q.kind = 2) (gq2 : (q.kind == 2) = true) (gl1 : 1 ≤ a.last) (gl2 : a.last ≤ 1099511627776) :
    Calls Try.prog 14 #[a.val (.slice A a.sp.length cap), p.val] w fun e w' => ∃ A' cap', e = .returned (.tuple #[{ a with plan := q, last := a.last + 1 }.val (.slice A' { a with plan := q, last := a.last + 1 }.sp.length cap'), .int .i64 0]) ∧ MapIn w' A' cap' { a with plan := q, last := a.last + 1 } ∧ Below w.heap.size w w' := by
  have hck := fun w h => check_any w A cap a h
  rw [hm] at hck
  have hl3 : a.sp.length * 56 ≤ 140737488355328 := by have := (of_tr hm).2.2.2.1.1; omega
  have Hck := Lib.hid hck; have HI := Lib.hid h
  clear hck h hm
  have hw2 : IntKind.i64.wrap (a.last + 1) = a.last + 1 := IntWalk.i64_in _ (by omega)
  have Hp := Lib.hid hp; have Hpl := Lib.hid hpl; clear hp hpl
  have Hb0 := Lib.hid b0
  have Hb1 := Lib.hid b1
  have Hb2 := Lib.hid b2
  have Hgq := Lib.hid gq
  have Hgq2 := Lib.hid gq2
  have Hgl1 := Lib.hid gl1
  have Hgl2 := Lib.hid gl2
  clear b0 b1 b2 gq gq2 gl1 gl2
  have hk0 : ¬ (k : Int) < 0 := by omega
  go_enter Try.func14, Try.ntmps14
  go_upto_region 1 with fail
  have hA0 : (((w.alloc (a.blk (.slice A a.sp.length cap))).alloc p.blk).alloc (zeroA.blk nilV)).heap[w.heap.size]? = some (a.blk (.slice A a.sp.length cap)) := (Below.heap_alloc _ _ _ (by simp; omega)).trans ((Below.heap_alloc _ _ _ (by simp)).trans (heap_alloc_new w _))
  have hP0 : (((w.alloc (a.blk (.slice A a.sp.length cap))).alloc p.blk).alloc (zeroA.blk nilV)).heap[w.heap.size + 1]? = some p.blk := (Below.heap_alloc _ _ _ (by simp)).trans (heap_second _ _ _)
  have hZ0 : (((w.alloc (a.blk (.slice A a.sp.length cap))).alloc p.blk).alloc (zeroA.blk nilV)).heap[w.heap.size + 1 + 1]? = some (zeroA.blk nilV) := by simpa using heap_alloc_new ((w.alloc (a.blk (.slice A a.sp.length cap))).alloc p.blk) (zeroA.blk nilV)
  have hB0 : Below w.heap.size w (((w.alloc (a.blk (.slice A a.sp.length cap))).alloc p.blk).alloc (zeroA.blk nilV)) := al3 _ _ _
  change Code.wp _ _ _ _ (((w.alloc (a.blk (.slice A a.sp.length cap))).alloc p.blk).alloc (zeroA.blk nilV))
  generalize ((w.alloc (a.blk (.slice A a.sp.length cap))).alloc p.blk).alloc (zeroA.blk nilV) = w0 at *
  have HA0 := Lib.hid hA0; have HP0 := Lib.hid hP0; have HZ0 := Lib.hid hZ0; have HB0 := Lib.hid hB0
  clear hA0 hP0 hZ0 hB0
  refine wp_region_lit ?_
  refine wpList_load26 rfl (.tmp 2) rfl (w.heap.size) rfl HA0.out ?_
  simp only [Act.put, List.setIfInBounds_toArray, List.set_cons_zero, List.set_cons_succ]
  go_upto_region 3 with (go_at_call 29
                         refine (Hck.out _ (HI.out.below HB0.out)).mono ?_
                         rintro e w1 ⟨rfl, hb1⟩
                         have HA1 := Lib.hid (blk_below hb1 (lt_of_some HA0.out) HA0.out)
                         have HP1 := Lib.hid (blk_below hb1 (lt_of_some HP0.out) HP0.out)
                         have HZ1 := Lib.hid (blk_below hb1 (lt_of_some HZ0.out) HZ0.out)
                         have HB1 := Lib.hid (HB0.out.trans (hb1.mono HB0.out.size))
                         clear hb1)
  refine wp_region_lit ?_
  refine wpList_load26 rfl (.tmp 2) rfl (w.heap.size) rfl HA1.out ?_
  simp only [Act.put, List.setIfInBounds_toArray, List.set_cons_zero, List.set_cons_succ]
  refine wpList_step (fun K hK => ?_)
  go_simp
  go_at_call 40
  refine (copied_any _ A cap a (HI.out.below HB1.out) hl3).mono ?_
  rintro e w2 ⟨A', cap', rfl, hO2, hI2, hb2⟩
  refine hK _ _ ?_
  clear hK K
  have hA2 := blk_below hb2 (lt_of_some HA1.out) HA1.out
  have HP2 := Lib.hid (blk_below hb2 (lt_of_some HP1.out) HP1.out)
  have HZ2 := Lib.hid (blk_below hb2 (lt_of_some HZ1.out) HZ1.out)
  have HB2 := Lib.hid (HB1.out.trans (hb2.mono HB1.out.size))
  refine wpList_store26 rfl (.tmp 2) (.tmp 14) rfl w.heap.size rfl (m := a) (v := .slice A' a.sp.length cap') (m0 := a) (v0 := .slice A a.sp.length cap) rfl rfl hA2 ?_
  intro w3 hA3 ho3
  simp only [Act.put, List.setIfInBounds_toArray, List.set_cons_zero, List.set_cons_succ]
  have hs1 : w.heap.size + 1 + 1 < w1.heap.size := lt_of_some HZ1.out
  have HO3 := Lib.hid (own_only hO2 ho3 (fun k hk he => by have := (hO2.lt k hk).1; have he : k = w.heap.size := he; omega))
  have hP3 := (ho3.block _ (lt_of_some HP2.out) (by show ¬ _ = _; omega)).trans HP2.out
  have HZ3 := Lib.hid ((ho3.block _ (lt_of_some HZ2.out) (by show ¬ _ = _; omega)).trans HZ2.out)
  have HB3 := Lib.hid (ho3.below HB2.out (fun k hk => by have hk : k = w.heap.size := hk; omega) HB2.out.size)
  obtain ⟨n0, n1, n2, n3, n4, n5, n6, n7, nlt⟩ := plan_blk hP3
  have HP3 := Lib.hid hP3; have HA3 := Lib.hid hA3
  clear hA2 hO2 hb2 hA3 ho3 hP3
  go_upto_region 4 with fail
  refine wp_region_lit ?_
  refine wpList_load26 rfl (.tmp 2) rfl (w.heap.size) rfl HA3.out ?_
  simp only [Act.put, List.setIfInBounds_toArray, List.set_cons_zero, List.set_cons_succ]
  go_upto_region 5 with (go_at_call 41
                         refine (place_any _ A' cap' a _ (MapIn.ofOwn HI.out HO3.out).row (Nat.le_trans (MapIn.ofOwn HI.out HO3.out).ncap (MapIn.ofOwn HI.out HO3.out).cmax)).mono ?_
                         rintro e w4 ⟨rfl, hb4⟩
                         rw [Hp.out]
                         have hA4 := blk_below hb4 (lt_of_some HA3.out) HA3.out
                         have hP4 := blk_below hb4 (lt_of_some HP3.out) HP3.out
                         have HZ4 := Lib.hid (blk_below hb4 (lt_of_some HZ3.out) HZ3.out)
                         have HB4 := Lib.hid (HB3.out.trans (hb4.mono HB3.out.size))
                         have HO4 := Lib.hid (own_only HO3.out (Only.of_below (F := fun _ => False) hb4) (fun _ _ h => h))
                         have HA4 := Lib.hid hA4; have HP4 := Lib.hid hP4
                         clear hb4 hA4 hP4)
  obtain ⟨m0, m1, m2, m3, m4, m5, m6, m7, m8, m9, m10, mlt⟩ := map_cells HA4.out
  clear n0 n1 n2 n3 n4 n5 n6 n7 nlt
  obtain ⟨n0, n1, n2, n3, n4, n5, n6, n7, nlt⟩ := plan_blk HP4.out
  have b0 := Hb0.out
  have b1 := Hb1.out
  have b2 := Hb2.out
  go_upto_region 11 with fail
  clear b0 b1 b2
  refine wp_region_lit ?_
  refine wpList_load26 rfl (.tmp 2) rfl (w.heap.size) rfl HA4.out ?_
  simp only [Act.put, List.setIfInBounds_toArray, List.set_cons_zero, List.set_cons_succ]
  refine wpList_step (fun K hK => ?_)
  go_simp
  refine hK _ _ ?_
  clear hK K
  refine wpList_load24 rfl (.tmp 3) rfl (w.heap.size + 1) rfl HP4.out ?_
  simp only [Act.put, List.setIfInBounds_toArray, List.set_cons_zero, List.set_cons_succ]
  refine wpList_step (fun K hK => ?_)
  go_simp
  go_at_call 42
  refine (Hpl.out _ A' cap' (MapIn.ofOwn HI.out HO4.out)).mono ?_
  rintro e w5 ⟨rfl, hb5⟩
  refine hK _ _ ?_
  clear hK K
  refine wpList_step (fun K hK => ?_)
  go_simp
  refine hK _ _ ?_
  clear hK K
  refine wpList_step (fun K hK => ?_)
  go_simp
  refine hK _ _ ?_
  clear hK K
  refine wpList_step (fun K hK => ?_)
  go_simp
  refine hK _ _ ?_
  clear hK K
  refine wpList_step (fun K hK => ?_)
  go_simp
  refine hK _ _ ?_
  clear hK K
  refine wpList_store24 rfl (.tmp 7) (.tmp 44) rfl w5.heap.size rfl (p := q) (p0 := zeroP) rfl (heap_alloc_new w5 _) ?_
  intro w6 hQ6 ho6
  simp only [Act.put, List.setIfInBounds_toArray, List.set_cons_zero, List.set_cons_succ]
  have hb : Below w5.heap.size w5 w6 := ho6.below (al _) (fun k hk => by omega) (by simp)
  have hl6 : w5.heap.size < w6.heap.size := lt_of_some hQ6
  have hb6 := hb5.trans (hb.mono hb5.size)
  have hA6 := blk_below hb6 (lt_of_some HA4.out) HA4.out
  have HZ6 := Lib.hid (blk_below hb6 (lt_of_some HZ4.out) HZ4.out)
  have HB6 := Lib.hid (HB4.out.trans (hb6.mono HB4.out.size))
  have HO6 := Lib.hid (own_only HO4.out (Only.of_below (F := fun _ => False) hb6) (fun _ _ h => h))
  have hne : w.heap.size ≠ w5.heap.size := by have := hb5.size; have := lt_of_some HA4.out; omega
  have hne2 : w5.heap.size ≠ w.heap.size := Ne.symm hne
  clear m0 m1 m2 m3 m4 m5 m6 m7 m8 m9 m10 mlt
  obtain ⟨m0, m1, m2, m3, m4, m5, m6, m7, m8, m9, m10, mlt⟩ := map_cells hA6
  obtain ⟨q0, q1, q2, q3, q4, q5, q6, q7, qlt⟩ := plan_blk hQ6
  have z1 := map_frz hA6 1; have z3 := map_frz hA6 3; have z4 := map_frz hA6 4; have z5 := map_frz hA6 5; have z6 := map_frz hA6 6; have z7 := map_frz hA6 7; have z8 := map_frz hA6 8; have z9 := map_frz hA6 9; have z10 := map_frz hA6 10
  have HA6 := Lib.hid hA6; have HQ6 := Lib.hid hQ6
  clear hb5 hb hb6 hA6 hQ6 ho6
  have gq2 := Hgq2.out
  have gl1 := Hgl1.out
  have gl2 := Hgl2.out
  go_upto_region 14 with fail
  refine wp_region_lit ?_
  refine wpList_load24 rfl (.tmp 7) rfl (w5.heap.size) rfl HQ6.out ?_
  simp only [Act.put, List.setIfInBounds_toArray, List.set_cons_zero, List.set_cons_succ]
  go_upto_region 17 with fail
  have hA7 : ((putPlan w6 w.heap.size q).setCell ⟨w.heap.size, 1, none⟩ (.int .i64 (a.last + 1))).heap[w.heap.size]? = some (Atl.blk { a with plan := q, last := a.last + 1 } (.slice A' a.sp.length cap')) := by
    have := (heap_setCell_at (i := 1) (map_putPlan q HA6.out) (.int .i64 (a.last + 1)))
    rw [this]
    simp only [Atl.blk, List.setIfInBounds_toArray, List.set_cons_zero, List.set_cons_succ]
  have hon : Only (· = w.heap.size) w6 ((putPlan w6 w.heap.size q).setCell ⟨w.heap.size, 1, none⟩ (.int .i64 (a.last + 1))) := ((putPlan_only w6 w.heap.size q).trans (only_setCell _ ⟨w.heap.size, 1, none⟩ (.int .i64 (a.last + 1))) (fun _ _ h => h))
  have HZ7 := Lib.hid ((hon.block _ (lt_of_some HZ6.out) (by show ¬ _ = _; omega)).trans HZ6.out)
  have HB7 := Lib.hid (hon.below HB6.out (fun k hk => by have hk : k = w.heap.size := hk; omega) HB6.out.size)
  have HO7 := Lib.hid (own_only HO6.out hon (fun k hk he => by have := (HO6.out.lt k hk).1; have he : k = w.heap.size := he; omega))
  have HA7 := Lib.hid hA7
  clear hA7 hon
  refine wp_region_lit ?_
  refine wpList_load26 rfl (.tmp 2) rfl (w.heap.size) rfl HA7.out ?_
  simp only [Act.put, List.setIfInBounds_toArray, List.set_cons_zero, List.set_cons_succ]
  refine wpList_store26 rfl (.tmp 4) (.tmp 59) rfl (w.heap.size + 1 + 1) rfl (m := { a with plan := q, last := a.last + 1 }) (v := (.slice A' a.sp.length cap')) (m0 := zeroA) (v0 := nilV) rfl rfl HZ7.out ?_
  intro w9 h9 ho9
  simp only [Act.put, List.setIfInBounds_toArray, List.set_cons_zero, List.set_cons_succ]
  go_wp2
  refine bodyPost_ret (results26 rfl _ _ (w.heap.size + 1 + 1) rfl h9) rfl ?_
  have hB9 := ho9.below HB7.out (fun k hk => by omega) HB7.out.size
  exact ⟨A', cap', rfl, (MapIn.ofOwn HI.out (own_only HO7.out ho9 (fun k hk he => by have := (HO7.out.lt k hk).1; omega))).replan q hqk _, hB9⟩
end Go.Proofs.Ytimondpollbdfaa
