/- What is proved: what giving up makes of a map: both programs' Abort, case by case. -/
import Derived.Test.YtimondpollbdfaaAdv18
import Derived.Test.YtimondpollbdfaaAdv17B
import Derived.Deep.RegionHeld3
set_option linter.unusedVariables false
set_option linter.unusedSimpArgs false
namespace Go.Proofs.Ytimondpollbdfaa
open Go.RowKit
attribute [local go_sem] Span.val Atl.val Plan.val

/-- The cells of a map in its block. -/
def MapLies (g : Nat) (a : Atl) (V : Value) (w : World) : Prop :=
  w.cell? ⟨g, 0, none⟩ = some (.int .i64 a.groups) ∧ w.cell? ⟨g, 1, none⟩ = some (.int .i64 a.last) ∧ w.cell? ⟨g, 2, none⟩ = some V ∧ w.cell? ⟨g, 3, none⟩ = some (.int .i64 a.plan.kind) ∧ w.cell? ⟨g, 4, none⟩ = some (.int .i64 a.plan.phase) ∧ w.cell? ⟨g, 5, none⟩ = some (.int .i64 a.plan.shard) ∧ w.cell? ⟨g, 6, none⟩ = some (.int .i64 a.plan.other) ∧ w.cell? ⟨g, 7, none⟩ = some (.int .i64 a.plan.group) ∧ w.cell? ⟨g, 8, none⟩ = some (.int .i64 a.plan.past) ∧ w.cell? ⟨g, 9, none⟩ = some (.int .i64 a.plan.epoch) ∧ w.cell? ⟨g, 10, none⟩ = some (.string a.plan.key)
theorem mapLies {g : Nat} {a : Atl} {V : Value} {w : World} (h : w.heap[g]? = some (a.blk V)) : MapLies g a V w := by
  obtain ⟨m0, m1, m2, m3, m4, m5, m6, m7, m8, m9, m10, _⟩ := map_cells h
  exact ⟨m0, m1, m2, m3, m4, m5, m6, m7, m8, m9, m10⟩
set_option maxRecDepth 100000 in
set_option maxHeartbeats 4000000 in
theorem abort_wrong (w : World) (A : Option Addr) (cap : Nat) (a : Atl) (h : MapIn w A cap a) (hm : tr (MapOk a) = false)  :
    Calls Try.prog 19 #[a.val (.slice A a.sp.length cap)] w fun e w' => ∃ A' cap', e = .returned (.tuple #[zeroA.val (.slice A' zeroA.sp.length cap'), .int .i64 4]) ∧ MapIn w' A' cap' zeroA ∧ Below w.heap.size w w' := by
  have hck := fun w h => check_any w A cap a h
  rw [hm] at hck
  have Hck := Lib.hid hck; have HI := Lib.hid h
  clear hck h hm
  go_enter Try.func19, Try.ntmps19
  go_upto_region 1 with fail
  have hat := al2_at w (a.blk (.slice A a.sp.length cap)) (zeroA.blk nilV)
  change Code.wp _ _ _ _ ((w.alloc (a.blk (.slice A a.sp.length cap))).alloc (zeroA.blk nilV))
  generalize (w.alloc (a.blk (.slice A a.sp.length cap))).alloc (zeroA.blk nilV) = w0 at *
  have HA0 := Lib.hid hat.1; have HZ0 := Lib.hid hat.2.1; have HB0 := Lib.hid hat.2.2
  clear hat
  refine wp_region_lit ?_
  refine wpList_load26 rfl (.tmp 1) rfl (w.heap.size) rfl HA0.out ?_
  simp only [Act.put, List.setIfInBounds_toArray, List.set_cons_zero, List.set_cons_succ]
  go_upto_region 2 with (go_at_call 29
                         refine (Hck.out _ (HI.out.below HB0.out)).mono ?_
                         rintro e w1 ⟨rfl, hb1⟩
                         have HA1 := Lib.hid (blk_below hb1 (lt_of_some HA0.out) HA0.out)
                         have HZ1 := Lib.hid (blk_below hb1 (lt_of_some HZ0.out) HZ0.out)
                         have HB1 := Lib.hid (HB0.out.trans (hb1.mono HB0.out.size))
                         clear hb1)
  refine wp_region_lit ?_
  refine wpList_step (fun K hK => ?_)
  go_simp
  refine hK _ _ ?_
  clear hK K
  refine wpList_store26 rfl (.tmp 2) (.tmp 7) rfl (w.heap.size + 1) rfl (m := zeroA) (v := nilV) (m0 := zeroA) (v0 := nilV) rfl rfl HZ1.out ?_
  intro w99 h9 ho9
  simp only [Act.put, List.setIfInBounds_toArray, List.set_cons_zero, List.set_cons_succ]
  go_wp2
  refine bodyPost_ret (results26 rfl _ _ (w.heap.size + 1) rfl h9) rfl ?_
  exact ⟨none, 0, rfl, ⟨rowAt_nil _ _ _ _, Nat.zero_le _, by decide, fun s hs => by simp [zeroA] at hs, by decide⟩, ho9.below HB1.out (fun k hk => by omega) HB1.out.size⟩
set_option maxRecDepth 100000 in
set_option maxHeartbeats 4000000 in
theorem rAbort_wrong (w : World) (A : Option Addr) (cap : Nat) (a : Atl) (h : MapIn w A cap a) (hm : tr (MapOk a) = false)  :
    Calls Try.prog 20 #[a.val (.slice A a.sp.length cap)] w fun e w' => ∃ A' cap', e = .returned (.tuple #[zeroA.val (.slice A' zeroA.sp.length cap'), .int .i64 4]) ∧ MapIn w' A' cap' zeroA ∧ Below w.heap.size w w' := by
  have hck := fun w h => rCheck_any w A cap a h
  rw [hm] at hck
  have Hck := Lib.hid hck; have HI := Lib.hid h
  clear hck h hm
  go_enter Try.func20, Try.ntmps20
  go_upto_region 1 with fail
  have hat := al2_at w (a.blk (.slice A a.sp.length cap)) (zeroA.blk nilV)
  change Code.wp _ _ _ _ ((w.alloc (a.blk (.slice A a.sp.length cap))).alloc (zeroA.blk nilV))
  generalize (w.alloc (a.blk (.slice A a.sp.length cap))).alloc (zeroA.blk nilV) = w0 at *
  have HA0 := Lib.hid hat.1; have HZ0 := Lib.hid hat.2.1; have HB0 := Lib.hid hat.2.2
  clear hat
  refine wp_region_lit ?_
  refine wpList_load26 rfl (.tmp 1) rfl (w.heap.size) rfl HA0.out ?_
  simp only [Act.put, List.setIfInBounds_toArray, List.set_cons_zero, List.set_cons_succ]
  go_upto_region 2 with (go_at_call 39
                         refine (Hck.out _ (HI.out.below HB0.out)).mono ?_
                         rintro e w1 ⟨rfl, hb1⟩
                         have HA1 := Lib.hid (blk_below hb1 (lt_of_some HA0.out) HA0.out)
                         have HZ1 := Lib.hid (blk_below hb1 (lt_of_some HZ0.out) HZ0.out)
                         have HB1 := Lib.hid (HB0.out.trans (hb1.mono HB0.out.size))
                         clear hb1)
  refine wp_region_lit ?_
  refine wpList_step (fun K hK => ?_)
  go_simp
  refine hK _ _ ?_
  clear hK K
  refine wpList_store26 rfl (.tmp 2) (.tmp 9) rfl (w.heap.size + 1) rfl (m := zeroA) (v := nilV) (m0 := zeroA) (v0 := nilV) rfl rfl HZ1.out ?_
  intro w99 h9 ho9
  simp only [Act.put, List.setIfInBounds_toArray, List.set_cons_zero, List.set_cons_succ]
  go_wp2
  refine bodyPost_ret (results26 rfl _ _ (w.heap.size + 1) rfl h9) rfl ?_
  exact ⟨none, 0, rfl, ⟨rowAt_nil _ _ _ _, Nat.zero_le _, by decide, fun s hs => by simp [zeroA] at hs, by decide⟩, ho9.below HB1.out (fun k hk => by omega) HB1.out.size⟩
set_option maxRecDepth 100000 in
set_option maxHeartbeats 4000000 in
theorem abort_none (w : World) (A : Option Addr) (cap : Nat) (a : Atl) (h : MapIn w A cap a) (hm : tr (MapOk a) = true) (b0 : (a.plan.kind == 0) = true) :
    Calls Try.prog 19 #[a.val (.slice A a.sp.length cap)] w fun e w' => ∃ A' cap', e = .returned (.tuple #[a.val (.slice A' a.sp.length cap'), .int .i64 4]) ∧ MapIn w' A' cap' a ∧ Below w.heap.size w w' := by
  have hck := fun w h => check_any w A cap a h
  rw [hm] at hck
  have hl3 : a.sp.length * 56 ≤ 140737488355328 := by have := (of_tr hm).2.2.2.1.1; omega
  have Hck := Lib.hid hck; have HI := Lib.hid h
  clear hck h hm
  have Hb0 := Lib.hid b0
  clear b0
  go_enter Try.func19, Try.ntmps19
  go_upto_region 1 with fail
  have hat := al2_at w (a.blk (.slice A a.sp.length cap)) (zeroA.blk nilV)
  change Code.wp _ _ _ _ ((w.alloc (a.blk (.slice A a.sp.length cap))).alloc (zeroA.blk nilV))
  generalize (w.alloc (a.blk (.slice A a.sp.length cap))).alloc (zeroA.blk nilV) = w0 at *
  have HA0 := Lib.hid hat.1; have HZ0 := Lib.hid hat.2.1; have HB0 := Lib.hid hat.2.2
  clear hat
  refine wp_region_lit ?_
  refine wpList_load26 rfl (.tmp 1) rfl (w.heap.size) rfl HA0.out ?_
  simp only [Act.put, List.setIfInBounds_toArray, List.set_cons_zero, List.set_cons_succ]
  go_upto_region 3 with (go_at_call 29
                         refine (Hck.out _ (HI.out.below HB0.out)).mono ?_
                         rintro e w1 ⟨rfl, hb1⟩
                         have HA1 := Lib.hid (blk_below hb1 (lt_of_some HA0.out) HA0.out)
                         have HZ1 := Lib.hid (blk_below hb1 (lt_of_some HZ0.out) HZ0.out)
                         have HB1 := Lib.hid (HB0.out.trans (hb1.mono HB0.out.size))
                         clear hb1)
  refine wp_region_lit ?_
  refine wpList_load26 rfl (.tmp 1) rfl (w.heap.size) rfl HA1.out ?_
  simp only [Act.put, List.setIfInBounds_toArray, List.set_cons_zero, List.set_cons_succ]
  refine wpList_step (fun K hK => ?_)
  go_simp
  go_at_call 40
  refine (copied_any _ A cap a (HI.out.below HB1.out) hl3).mono ?_
  rintro e w2 ⟨A', cap', rfl, hO2, hI2, hb2⟩
  refine hK _ _ ?_
  clear hK K
  have hA2 := blk_below hb2 (lt_of_some HA1.out) HA1.out
  have HZ2 := Lib.hid (blk_below hb2 (lt_of_some HZ1.out) HZ1.out)
  have HB2 := Lib.hid (HB1.out.trans (hb2.mono HB1.out.size))
  refine wpList_store26 rfl (.tmp 1) (.tmp 9) rfl w.heap.size rfl (m := a) (v := .slice A' a.sp.length cap') (m0 := a) (v0 := .slice A a.sp.length cap) rfl rfl hA2 ?_
  intro w3 hA3 ho3
  simp only [Act.put, List.setIfInBounds_toArray, List.set_cons_zero, List.set_cons_succ]
  have hs1 : w.heap.size + 1 < w1.heap.size := lt_of_some HZ1.out
  have HO3 := Lib.hid (own_only hO2 ho3 (fun k hk he => by have := (hO2.lt k hk).1; have he : k = w.heap.size := he; omega))
  have HZ3 := Lib.hid ((ho3.block _ (lt_of_some HZ2.out) (by show ¬ _ = _; omega)).trans HZ2.out)
  have HB3 := Lib.hid (ho3.below HB2.out (fun k hk => by have hk : k = w.heap.size := hk; omega) HB2.out.size)
  have HA3 := Lib.hid hA3
  clear hA2 hO2 hb2 hA3 ho3 hI2
  go_upto_region 4 with fail
  obtain ⟨m0, m1, m2, m3, m4, m5, m6, m7, m8, m9, m10, mlt⟩ := map_cells HA3.out
  have b0 := Hb0.out
  go_upto_region 5 with fail
  refine wp_region_lit ?_
  refine wpList_load26 rfl (.tmp 1) rfl (w.heap.size) rfl HA3.out ?_
  simp only [Act.put, List.setIfInBounds_toArray, List.set_cons_zero, List.set_cons_succ]
  refine wpList_store26 rfl (.tmp 2) (.tmp 20) rfl (w.heap.size + 1) rfl (m := a) (v := (.slice A' a.sp.length cap')) (m0 := zeroA) (v0 := nilV) rfl rfl HZ3.out ?_
  intro w99 h9 ho9
  simp only [Act.put, List.setIfInBounds_toArray, List.set_cons_zero, List.set_cons_succ]
  go_wp2
  refine bodyPost_ret (results26 rfl _ _ (w.heap.size + 1) rfl h9) rfl ?_
  have hB9 := ho9.below HB3.out (fun k hk => by omega) HB3.out.size
  exact ⟨A', cap', rfl, MapIn.ofOwn HI.out (own_only HO3.out ho9 (fun k hk he => by have := (HO3.out.lt k hk).1; omega)), hB9⟩
set_option maxRecDepth 100000 in
set_option maxHeartbeats 4000000 in
theorem abort_phase (w : World) (A : Option Addr) (cap : Nat) (a : Atl) (h : MapIn w A cap a) (hm : tr (MapOk a) = true) (b0 : (a.plan.kind == 0) = false) (b1 : (a.plan.phase == 1) = false) :
    Calls Try.prog 19 #[a.val (.slice A a.sp.length cap)] w fun e w' => ∃ A' cap', e = .returned (.tuple #[a.val (.slice A' a.sp.length cap'), .int .i64 4]) ∧ MapIn w' A' cap' a ∧ Below w.heap.size w w' := by
  have hck := fun w h => check_any w A cap a h
  rw [hm] at hck
  have hl3 : a.sp.length * 56 ≤ 140737488355328 := by have := (of_tr hm).2.2.2.1.1; omega
  have Hck := Lib.hid hck; have HI := Lib.hid h
  clear hck h hm
  have Hb0 := Lib.hid b0
  have Hb1 := Lib.hid b1
  clear b0 b1
  go_enter Try.func19, Try.ntmps19
  go_upto_region 1 with fail
  have hat := al2_at w (a.blk (.slice A a.sp.length cap)) (zeroA.blk nilV)
  change Code.wp _ _ _ _ ((w.alloc (a.blk (.slice A a.sp.length cap))).alloc (zeroA.blk nilV))
  generalize (w.alloc (a.blk (.slice A a.sp.length cap))).alloc (zeroA.blk nilV) = w0 at *
  have HA0 := Lib.hid hat.1; have HZ0 := Lib.hid hat.2.1; have HB0 := Lib.hid hat.2.2
  clear hat
  refine wp_region_lit ?_
  refine wpList_load26 rfl (.tmp 1) rfl (w.heap.size) rfl HA0.out ?_
  simp only [Act.put, List.setIfInBounds_toArray, List.set_cons_zero, List.set_cons_succ]
  go_upto_region 3 with (go_at_call 29
                         refine (Hck.out _ (HI.out.below HB0.out)).mono ?_
                         rintro e w1 ⟨rfl, hb1⟩
                         have HA1 := Lib.hid (blk_below hb1 (lt_of_some HA0.out) HA0.out)
                         have HZ1 := Lib.hid (blk_below hb1 (lt_of_some HZ0.out) HZ0.out)
                         have HB1 := Lib.hid (HB0.out.trans (hb1.mono HB0.out.size))
                         clear hb1)
  refine wp_region_lit ?_
  refine wpList_load26 rfl (.tmp 1) rfl (w.heap.size) rfl HA1.out ?_
  simp only [Act.put, List.setIfInBounds_toArray, List.set_cons_zero, List.set_cons_succ]
  refine wpList_step (fun K hK => ?_)
  go_simp
  go_at_call 40
  refine (copied_any _ A cap a (HI.out.below HB1.out) hl3).mono ?_
  rintro e w2 ⟨A', cap', rfl, hO2, hI2, hb2⟩
  refine hK _ _ ?_
  clear hK K
  have hA2 := blk_below hb2 (lt_of_some HA1.out) HA1.out
  have HZ2 := Lib.hid (blk_below hb2 (lt_of_some HZ1.out) HZ1.out)
  have HB2 := Lib.hid (HB1.out.trans (hb2.mono HB1.out.size))
  refine wpList_store26 rfl (.tmp 1) (.tmp 9) rfl w.heap.size rfl (m := a) (v := .slice A' a.sp.length cap') (m0 := a) (v0 := .slice A a.sp.length cap) rfl rfl hA2 ?_
  intro w3 hA3 ho3
  simp only [Act.put, List.setIfInBounds_toArray, List.set_cons_zero, List.set_cons_succ]
  have hs1 : w.heap.size + 1 < w1.heap.size := lt_of_some HZ1.out
  have HO3 := Lib.hid (own_only hO2 ho3 (fun k hk he => by have := (hO2.lt k hk).1; have he : k = w.heap.size := he; omega))
  have HZ3 := Lib.hid ((ho3.block _ (lt_of_some HZ2.out) (by show ¬ _ = _; omega)).trans HZ2.out)
  have HB3 := Lib.hid (ho3.below HB2.out (fun k hk => by have hk : k = w.heap.size := hk; omega) HB2.out.size)
  have HA3 := Lib.hid hA3
  clear hA2 hO2 hb2 hA3 ho3 hI2
  go_upto_region 4 with fail
  obtain ⟨m0, m1, m2, m3, m4, m5, m6, m7, m8, m9, m10, mlt⟩ := map_cells HA3.out
  have b0 := Hb0.out
  have b1 := Hb1.out
  go_upto_region 5 with fail
  refine wp_region_lit ?_
  refine wpList_load26 rfl (.tmp 1) rfl (w.heap.size) rfl HA3.out ?_
  simp only [Act.put, List.setIfInBounds_toArray, List.set_cons_zero, List.set_cons_succ]
  refine wpList_store26 rfl (.tmp 2) (.tmp 20) rfl (w.heap.size + 1) rfl (m := a) (v := (.slice A' a.sp.length cap')) (m0 := zeroA) (v0 := nilV) rfl rfl HZ3.out ?_
  intro w99 h9 ho9
  simp only [Act.put, List.setIfInBounds_toArray, List.set_cons_zero, List.set_cons_succ]
  go_wp2
  refine bodyPost_ret (results26 rfl _ _ (w.heap.size + 1) rfl h9) rfl ?_
  have hB9 := ho9.below HB3.out (fun k hk => by omega) HB3.out.size
  exact ⟨A', cap', rfl, MapIn.ofOwn HI.out (own_only HO3.out ho9 (fun k hk he => by have := (HO3.out.lt k hk).1; omega)), hB9⟩
set_option maxRecDepth 100000 in
set_option maxHeartbeats 4000000 in
theorem rAbort_none (w : World) (A : Option Addr) (cap : Nat) (a : Atl) (h : MapIn w A cap a) (hm : tr (MapOk a) = true) (b0 : (a.plan.kind == 0) = true) :
    Calls Try.prog 20 #[a.val (.slice A a.sp.length cap)] w fun e w' => ∃ A' cap', e = .returned (.tuple #[a.val (.slice A' a.sp.length cap'), .int .i64 4]) ∧ MapIn w' A' cap' a ∧ Below w.heap.size w w' := by
  have hck := fun w h => rCheck_any w A cap a h
  rw [hm] at hck
  have hl3 : a.sp.length * 56 ≤ 140737488355328 := by have := (of_tr hm).2.2.2.1.1; omega
  have Hck := Lib.hid hck; have HI := Lib.hid h
  clear hck h hm
  have Hb0 := Lib.hid b0
  clear b0
  go_enter Try.func20, Try.ntmps20
  go_upto_region 1 with fail
  have hat := al2_at w (a.blk (.slice A a.sp.length cap)) (zeroA.blk nilV)
  change Code.wp _ _ _ _ ((w.alloc (a.blk (.slice A a.sp.length cap))).alloc (zeroA.blk nilV))
  generalize (w.alloc (a.blk (.slice A a.sp.length cap))).alloc (zeroA.blk nilV) = w0 at *
  have HA0 := Lib.hid hat.1; have HZ0 := Lib.hid hat.2.1; have HB0 := Lib.hid hat.2.2
  clear hat
  refine wp_region_lit ?_
  refine wpList_load26 rfl (.tmp 1) rfl (w.heap.size) rfl HA0.out ?_
  simp only [Act.put, List.setIfInBounds_toArray, List.set_cons_zero, List.set_cons_succ]
  go_upto_region 3 with (go_at_call 39
                         refine (Hck.out _ (HI.out.below HB0.out)).mono ?_
                         rintro e w1 ⟨rfl, hb1⟩
                         have HA1 := Lib.hid (blk_below hb1 (lt_of_some HA0.out) HA0.out)
                         have HZ1 := Lib.hid (blk_below hb1 (lt_of_some HZ0.out) HZ0.out)
                         have HB1 := Lib.hid (HB0.out.trans (hb1.mono HB0.out.size))
                         clear hb1)
  obtain ⟨m0, m1, m2, m3, m4, m5, m6, m7, m8, m9, m10, mlt⟩ := map_cells HA1.out
  have b0 := Hb0.out
  go_upto_region 4 with fail
  refine wp_region_lit ?_
  refine wpList_load26 rfl (.tmp 1) rfl (w.heap.size) rfl HA1.out ?_
  simp only [Act.put, List.setIfInBounds_toArray, List.set_cons_zero, List.set_cons_succ]
  refine wpList_store26 rfl (.tmp 2) (.tmp 20) rfl (w.heap.size + 1) rfl (m := a) (v := (.slice A a.sp.length cap)) (m0 := zeroA) (v0 := nilV) rfl rfl HZ1.out ?_
  intro w99 h9 ho9
  simp only [Act.put, List.setIfInBounds_toArray, List.set_cons_zero, List.set_cons_succ]
  go_wp2
  refine bodyPost_ret (results26 rfl _ _ (w.heap.size + 1) rfl h9) rfl ?_
  have hB9 := ho9.below HB1.out (fun k hk => by omega) HB1.out.size
  exact ⟨A, cap, rfl, HI.out.below hB9, hB9⟩
set_option maxRecDepth 100000 in
set_option maxHeartbeats 4000000 in
theorem rAbort_phase (w : World) (A : Option Addr) (cap : Nat) (a : Atl) (h : MapIn w A cap a) (hm : tr (MapOk a) = true) (b0 : (a.plan.kind == 0) = false) (b1 : (a.plan.phase == 1) = false) :
    Calls Try.prog 20 #[a.val (.slice A a.sp.length cap)] w fun e w' => ∃ A' cap', e = .returned (.tuple #[a.val (.slice A' a.sp.length cap'), .int .i64 4]) ∧ MapIn w' A' cap' a ∧ Below w.heap.size w w' := by
  have hck := fun w h => rCheck_any w A cap a h
  rw [hm] at hck
  have hl3 : a.sp.length * 56 ≤ 140737488355328 := by have := (of_tr hm).2.2.2.1.1; omega
  have Hck := Lib.hid hck; have HI := Lib.hid h
  clear hck h hm
  have Hb0 := Lib.hid b0
  have Hb1 := Lib.hid b1
  clear b0 b1
  go_enter Try.func20, Try.ntmps20
  go_upto_region 1 with fail
  have hat := al2_at w (a.blk (.slice A a.sp.length cap)) (zeroA.blk nilV)
  change Code.wp _ _ _ _ ((w.alloc (a.blk (.slice A a.sp.length cap))).alloc (zeroA.blk nilV))
  generalize (w.alloc (a.blk (.slice A a.sp.length cap))).alloc (zeroA.blk nilV) = w0 at *
  have HA0 := Lib.hid hat.1; have HZ0 := Lib.hid hat.2.1; have HB0 := Lib.hid hat.2.2
  clear hat
  refine wp_region_lit ?_
  refine wpList_load26 rfl (.tmp 1) rfl (w.heap.size) rfl HA0.out ?_
  simp only [Act.put, List.setIfInBounds_toArray, List.set_cons_zero, List.set_cons_succ]
  go_upto_region 3 with (go_at_call 39
                         refine (Hck.out _ (HI.out.below HB0.out)).mono ?_
                         rintro e w1 ⟨rfl, hb1⟩
                         have HA1 := Lib.hid (blk_below hb1 (lt_of_some HA0.out) HA0.out)
                         have HZ1 := Lib.hid (blk_below hb1 (lt_of_some HZ0.out) HZ0.out)
                         have HB1 := Lib.hid (HB0.out.trans (hb1.mono HB0.out.size))
                         clear hb1)
  obtain ⟨m0, m1, m2, m3, m4, m5, m6, m7, m8, m9, m10, mlt⟩ := map_cells HA1.out
  have b0 := Hb0.out
  have b1 := Hb1.out
  go_upto_region 4 with fail
  refine wp_region_lit ?_
  refine wpList_load26 rfl (.tmp 1) rfl (w.heap.size) rfl HA1.out ?_
  simp only [Act.put, List.setIfInBounds_toArray, List.set_cons_zero, List.set_cons_succ]
  refine wpList_store26 rfl (.tmp 2) (.tmp 20) rfl (w.heap.size + 1) rfl (m := a) (v := (.slice A a.sp.length cap)) (m0 := zeroA) (v0 := nilV) rfl rfl HZ1.out ?_
  intro w99 h9 ho9
  simp only [Act.put, List.setIfInBounds_toArray, List.set_cons_zero, List.set_cons_succ]
  go_wp2
  refine bodyPost_ret (results26 rfl _ _ (w.heap.size + 1) rfl h9) rfl ?_
  have hB9 := ho9.below HB1.out (fun k hk => by omega) HB1.out.size
  exact ⟨A, cap, rfl, HI.out.below hB9, hB9⟩
set_option maxRecDepth 100000 in
set_option maxHeartbeats 4000000 in
theorem abort_ok (w : World) (A : Option Addr) (cap : Nat) (a : Atl) (h : MapIn w A cap a) (hm : tr (MapOk a) = true) (k : Nat) (s : Span) (hk : k < a.sp.length) (hs : a.sp[k] = s) (hp : place a.sp a.plan.shard = (k : Int)) (he1 : 1 ≤ s.ep) (he2 : s.ep ≤ 1099511627776) (b0 : (a.plan.kind == 0) = false) (b1 : (a.plan.phase == 1) = true) :
    Calls Try.prog 19 #[a.val (.slice A a.sp.length cap)] w fun e w' => ∃ A' cap', e = .returned (.tuple #[{ a with sp := a.sp.set k { s with ep := s.ep + 2 }, plan := { a.plan with phase := 9 } }.val (.slice A' { a with sp := a.sp.set k { s with ep := s.ep + 2 }, plan := { a.plan with phase := 9 } }.sp.length cap'), .int .i64 0]) ∧ MapIn w' A' cap' { a with sp := a.sp.set k { s with ep := s.ep + 2 }, plan := { a.plan with phase := 9 } } ∧ Below w.heap.size w w' := by
  have hck := fun w h => check_any w A cap a h
  rw [hm] at hck
  have hl3 : a.sp.length * 56 ≤ 140737488355328 := by have := (of_tr hm).2.2.2.1.1; omega
  have Hck := Lib.hid hck; have HI := Lib.hid h
  clear hck h hm
  have Hb0 := Lib.hid b0
  have Hb1 := Lib.hid b1
  clear b0 b1
  have Hp := Lib.hid hp; clear hp
  have hk1 : (0 : Int) ≤ (k : Int) := by omega
  have hk2 : (k : Int) < (a.sp.length : Int) := by omega
  have hw3 : IntKind.i64.wrap (s.ep + 2) = s.ep + 2 := IntWalk.i64_in _ (by omega)
  go_enter Try.func19, Try.ntmps19
  go_upto_region 1 with fail
  have hat := al2_at w (a.blk (.slice A a.sp.length cap)) (zeroA.blk nilV)
  change Code.wp _ _ _ _ ((w.alloc (a.blk (.slice A a.sp.length cap))).alloc (zeroA.blk nilV))
  generalize (w.alloc (a.blk (.slice A a.sp.length cap))).alloc (zeroA.blk nilV) = w0 at *
  have HA0 := Lib.hid hat.1; have HZ0 := Lib.hid hat.2.1; have HB0 := Lib.hid hat.2.2
  clear hat
  refine wp_region_lit ?_
  refine wpList_load26 rfl (.tmp 1) rfl (w.heap.size) rfl HA0.out ?_
  simp only [Act.put, List.setIfInBounds_toArray, List.set_cons_zero, List.set_cons_succ]
  go_upto_region 3 with (go_at_call 29
                         refine (Hck.out _ (HI.out.below HB0.out)).mono ?_
                         rintro e w1 ⟨rfl, hb1⟩
                         have HA1 := Lib.hid (blk_below hb1 (lt_of_some HA0.out) HA0.out)
                         have HZ1 := Lib.hid (blk_below hb1 (lt_of_some HZ0.out) HZ0.out)
                         have HB1 := Lib.hid (HB0.out.trans (hb1.mono HB0.out.size))
                         clear hb1)
  refine wp_region_lit ?_
  refine wpList_load26 rfl (.tmp 1) rfl (w.heap.size) rfl HA1.out ?_
  simp only [Act.put, List.setIfInBounds_toArray, List.set_cons_zero, List.set_cons_succ]
  refine wpList_step (fun K hK => ?_)
  go_simp
  go_at_call 40
  refine (copied_any _ A cap a (HI.out.below HB1.out) hl3).mono ?_
  rintro e w2 ⟨A', cap', rfl, hO2, hI2, hb2⟩
  refine hK _ _ ?_
  clear hK K
  have hA2 := blk_below hb2 (lt_of_some HA1.out) HA1.out
  have HZ2 := Lib.hid (blk_below hb2 (lt_of_some HZ1.out) HZ1.out)
  have HB2 := Lib.hid (HB1.out.trans (hb2.mono HB1.out.size))
  refine wpList_store26 rfl (.tmp 1) (.tmp 9) rfl w.heap.size rfl (m := a) (v := .slice A' a.sp.length cap') (m0 := a) (v0 := .slice A a.sp.length cap) rfl rfl hA2 ?_
  intro w3 hA3 ho3
  simp only [Act.put, List.setIfInBounds_toArray, List.set_cons_zero, List.set_cons_succ]
  have hs1 : w.heap.size + 1 < w1.heap.size := lt_of_some HZ1.out
  have HO3 := Lib.hid (own_only hO2 ho3 (fun k hk he => by have := (hO2.lt k hk).1; have he : k = w.heap.size := he; omega))
  have HZ3 := Lib.hid ((ho3.block _ (lt_of_some HZ2.out) (by show ¬ _ = _; omega)).trans HZ2.out)
  have HB3 := Lib.hid (ho3.below HB2.out (fun k hk => by have hk : k = w.heap.size := hk; omega) HB2.out.size)
  have HA3 := Lib.hid hA3
  clear hA2 hO2 hb2 hA3 ho3 hI2
  go_upto_region 4 with fail
  obtain ⟨g, rfl, hg1, hg2⟩ := own_addr HO3.out (by omega)
  obtain ⟨m0, m1, m2, m3, m4, m5, m6, m7, m8, m9, m10, mlt⟩ := map_cells HA3.out
  have b0 := Hb0.out
  have b1 := Hb1.out
  go_upto_region 6 with fail
  have hne4 : g ≠ w.heap.size := by omega
  go_region_law
    (first
    | (go_simp
       go_at_call 41
       refine (place_any w3.drew (some ⟨g, 0, none⟩) cap' a _ ((MapIn.ofOwn HI.out HO3.out).below ((Below.refl _ w3).drew)).row (Nat.le_trans (MapIn.ofOwn HI.out HO3.out).ncap (MapIn.ofOwn HI.out HO3.out).cmax)).mono ?_
       rintro e w4 ⟨rfl, hb4'⟩
       rw [Hp.out]
       have hb4 : Below w3.heap.size w3 w4 := ((Below.refl _ w3).drew).trans hb4'
       have hA4 := blk_below hb4 (lt_of_some HA3.out) HA3.out
       have hO4 := own_only HO3.out (Only.of_below (F := fun _ => False) hb4) (fun _ _ h => h)
       have p3 : w4.cell? ⟨g, k * 5 + 3, none⟩ = some (.int .i64 s.ep) := by
         have := (own_span hO4 k hk).2.2.2.1
         rwa [hs] at this
       have fz3 := hO4.frozenAt (k * 5 + 3)
       obtain ⟨n0, n1, n2, n3, n4, n5, n6, n7, n8, n9, n10, nlt⟩ := map_cells hA4
       have hor := only_setCell w4 ⟨g, k * 5 + 3, none⟩ (.int .i64 (s.ep + 2))
       have hA5 := (hor.block _ (lt_of_some hA4) (by show ¬ _ = g; omega)).trans hA4
       have HZ4 := Lib.hid (blk_below hb4 (lt_of_some HZ3.out) HZ3.out)
       have HB4 := Lib.hid (HB3.out.trans (hb4.mono HB3.out.size))
       have HA5 := Lib.hid hA5; have HO4 := Lib.hid hO4
       clear hb4' hb4 hA4 hO4 hor hA5))
  all_goals
      have hO5 := (HO4.out.stored (k * 5 + 3) (.int .i64 (s.ep + 2))).1
      rw [span_set a.sp k 3 s { s with ep := s.ep + 2 } (.int .i64 (s.ep + 2)) (by rw [List.getElem?_eq_getElem hk, hs]) (by omega) rfl] at hO5
      have hor := only_setCell w4 ⟨g, k * 5 + 3, none⟩ (.int .i64 (s.ep + 2))
      have hZ5 := (hor.block _ (lt_of_some HZ4.out) (by show ¬ _ = g; omega)).trans HZ4.out
      have hB5 := hor.below HB4.out (fun q hq => by have hq : q = g := hq; omega) HB4.out.size
      have hA5 := HA5.out
      generalize (w4.setCell ⟨g, k * 5 + 3, none⟩ (.int .i64 (s.ep + 2))) = w5 at *
      clear m0 m1 m2 m3 m4 m5 m6 m7 m8 m9 m10 mlt n0 n1 n2 n3 n4 n5 n6 n7 n8 n9 n10 nlt p3 fz3 hor
      obtain ⟨m0, m1, m2, m3, m4, m5, m6, m7, m8, m9, m10, mlt⟩ := map_cells hA5
      have fm4 := map_frz hA5 4
      have HO5 := Lib.hid hO5; have HZ5 := Lib.hid hZ5; have HB5 := Lib.hid hB5
      clear hO5 hZ5 hB5 hA5
      go_upto_region 8 with fail
      have hA6 : (w5.setCell ⟨w.heap.size, 4, none⟩ (.int .i64 9)).heap[w.heap.size]? = some (Atl.blk { a with sp := a.sp.set k { s with ep := s.ep + 2 }, plan := { a.plan with phase := 9 } } (.slice (some ⟨g, 0, none⟩) a.sp.length cap')) := by
        have := heap_setCell_at (i := 4) HA5.out (.int .i64 9)
        refine (show _ = _ from this).trans ?_
        simp only [Atl.blk, List.setIfInBounds_toArray, List.set_cons_zero, List.set_cons_succ]
      have ho6 := only_setCell w5 ⟨w.heap.size, 4, none⟩ (.int .i64 9)
      have hZ6 := (ho6.block _ (lt_of_some HZ5.out) (by show ¬ _ = w.heap.size; omega)).trans HZ5.out
      have hB6 := ho6.below HB5.out (fun q hq => by have hq : q = w.heap.size := hq; omega) HB5.out.size
      have hO6 := own_only HO5.out ho6 (fun q hq he => by have := (HO5.out.lt q hq).1; have he : q = w.heap.size := he; omega)
      refine wp_region_lit ?_
      refine wpList_load26 rfl (.tmp 1) rfl (w.heap.size) rfl hA6 ?_
      simp only [Act.put, List.setIfInBounds_toArray, List.set_cons_zero, List.set_cons_succ]
      refine wpList_store26 rfl (.tmp 2) (.tmp 36) rfl (w.heap.size + 1) rfl (m := { a with sp := a.sp.set k { s with ep := s.ep + 2 }, plan := { a.plan with phase := 9 } }) (v := (.slice (some ⟨g, 0, none⟩) a.sp.length cap')) (m0 := zeroA) (v0 := nilV) rfl rfl hZ6 ?_
      intro w99 h9 ho9
      simp only [Act.put, List.setIfInBounds_toArray, List.set_cons_zero, List.set_cons_succ]
      go_wp2
      refine bodyPost_ret (results26 rfl _ _ (w.heap.size + 1) rfl h9) rfl ?_
      have hB9 := ho9.below hB6 (fun k hk => by omega) hB6.size
      have hO9 := own_only hO6 ho9 (fun k hk he => by have := (hO6.lt k hk).1; omega)
      have hlen : (a.sp.set k { s with ep := s.ep + 2 }).length = a.sp.length := by simp
      refine ⟨some ⟨g, 0, none⟩, cap', ?_, HI.out.respan (by rw [hlen]; exact hO9) (fun t ht => ?_) { a.plan with phase := 9 } HI.out.key a.last, hB9⟩
      · first | rfl | simp [Atl.val]
      · rcases List.mem_or_eq_of_mem_set ht with h | h
        · exact HI.out.sz t h
        · rw [h]
          exact HI.out.sz s (by rw [← hs]; exact List.getElem_mem hk)
set_option maxRecDepth 100000 in
set_option maxHeartbeats 4000000 in
theorem rAbort_ok (w : World) (A : Option Addr) (cap : Nat) (a : Atl) (h : MapIn w A cap a) (hm : tr (MapOk a) = true) (k : Nat) (s : Span) (hk : k < a.sp.length) (hs : a.sp[k] = s) (hp : place a.sp a.plan.shard = (k : Int)) (he1 : 1 ≤ s.ep) (he2 : s.ep ≤ 1099511627776) (h16 : a.sp.length ≤ 16) (b0 : (a.plan.kind == 0) = false) (b1 : (a.plan.phase == 1) = true) :
    Calls Try.prog 20 #[a.val (.slice A a.sp.length cap)] w fun e w' => ∃ A' cap', e = .returned (.tuple #[{ a with sp := (a.sp.take k ++ { s with ep := s.ep + 2 } :: a.sp.drop (k + 1)), plan := { a.plan with phase := 9 } }.val (.slice A' { a with sp := (a.sp.take k ++ { s with ep := s.ep + 2 } :: a.sp.drop (k + 1)), plan := { a.plan with phase := 9 } }.sp.length cap'), .int .i64 0]) ∧ MapIn w' A' cap' { a with sp := (a.sp.take k ++ { s with ep := s.ep + 2 } :: a.sp.drop (k + 1)), plan := { a.plan with phase := 9 } } ∧ Below w.heap.size w w' := by
  have hck := fun w h => rCheck_any w A cap a h
  rw [hm] at hck
  have hl3 : a.sp.length * 56 ≤ 140737488355328 := by have := (of_tr hm).2.2.2.1.1; omega
  have Hck := Lib.hid hck; have HI := Lib.hid h
  clear hck h hm
  have Hb0 := Lib.hid b0
  have Hb1 := Lib.hid b1
  clear b0 b1
  obtain ⟨b, off, rfl, hbl, _, _, _, _, _⟩ := span_cells HI.out.row k hk
  have Hp := Lib.hid hp; clear hp
  have hk1 : (0 : Int) ≤ (k : Int) := by omega
  have hk2 : (k : Int) < (a.sp.length : Int) := by omega
  have hw1 : IntKind.i64.wrap ((k : Int) + 1) = (k : Int) + 1 := IntWalk.i64_in _ (by omega)
  have hw3 : IntKind.i64.wrap (s.ep + 2) = s.ep + 2 := IntWalk.i64_in _ (by omega)
  go_enter Try.func20, Try.ntmps20
  go_upto_region 1 with fail
  have hat := al2_at w (a.blk (.slice (some ⟨b, off, none⟩) a.sp.length cap)) (zeroA.blk nilV)
  change Code.wp _ _ _ _ ((w.alloc (a.blk (.slice (some ⟨b, off, none⟩) a.sp.length cap))).alloc (zeroA.blk nilV))
  generalize (w.alloc (a.blk (.slice (some ⟨b, off, none⟩) a.sp.length cap))).alloc (zeroA.blk nilV) = w0 at *
  have HA0 := Lib.hid hat.1; have HZ0 := Lib.hid hat.2.1; have HB0 := Lib.hid hat.2.2
  clear hat
  refine wp_region_lit ?_
  refine wpList_load26 rfl (.tmp 1) rfl (w.heap.size) rfl HA0.out ?_
  simp only [Act.put, List.setIfInBounds_toArray, List.set_cons_zero, List.set_cons_succ]
  go_upto_region 3 with (go_at_call 39
                         refine (Hck.out _ (HI.out.below HB0.out)).mono ?_
                         rintro e w1 ⟨rfl, hb1⟩
                         have HA1 := Lib.hid (blk_below hb1 (lt_of_some HA0.out) HA0.out)
                         have HZ1 := Lib.hid (blk_below hb1 (lt_of_some HZ0.out) HZ0.out)
                         have HB1 := Lib.hid (HB0.out.trans (hb1.mono HB0.out.size))
                         clear hb1)
  obtain ⟨m0, m1, m2, m3, m4, m5, m6, m7, m8, m9, m10, mlt⟩ := map_cells HA1.out
  have b0 := Hb0.out
  have b1 := Hb1.out
  go_upto_region 5 with fail
  refine wp_region_lit ?_
  refine wpList_load26 rfl (.tmp 1) rfl (w.heap.size) rfl HA1.out ?_
  simp only [Act.put, List.setIfInBounds_toArray, List.set_cons_zero, List.set_cons_succ]
  go_upto_region 6 with (go_at_call 32
                         refine (rPlace_any _ (some ⟨b, off, none⟩) cap a _ (HI.out.below HB1.out).row (by omega)).mono ?_
                         rintro e w3 ⟨rfl, hb3⟩
                         rw [Hp.out]
                         have HA3 := Lib.hid (blk_below hb3 (lt_of_some HA1.out) HA1.out)
                         have HZ3 := Lib.hid (blk_below hb3 (lt_of_some HZ1.out) HZ1.out)
                         have HB3 := Lib.hid (HB1.out.trans (hb3.mono HB1.out.size))
                         clear hb3)
  clear m0 m1 m2 m3 m4 m5 m6 m7 m8 m9 m10 mlt
  obtain ⟨m0, m1, m2, m3, m4, m5, m6, m7, m8, m9, m10, mlt⟩ := map_cells HA3.out
  obtain ⟨_, _, he, blt, p0, p1, p2, p3, p4⟩ := span_cells (HI.out.below HB3.out).row k hk
  injection he with he
  injection he with hx1 hx2
  subst hx1; subst hx2
  rw [hs] at p0 p1 p2 p3 p4
  go_upto_region 7 with fail
  change Code.wp _ _ _ _ (w3.alloc s.blk)
  have hS4 := heap_alloc_new w3 s.blk
  have hA4 := blk_below (al (w := w3) s.blk) (lt_of_some HA3.out) HA3.out
  have hZ4 := blk_below (al (w := w3) s.blk) (lt_of_some HZ3.out) HZ3.out
  have hB4 := HB3.out.trans ((al (w := w3) s.blk).mono HB3.out.size)
  have hl3 := lt_of_some HZ3.out
  generalize w3.alloc s.blk = w4 at *
  clear m0 m1 m2 m3 m4 m5 m6 m7 m8 m9 m10 mlt p0 p1 p2 p3 p4
  obtain ⟨s0, s1, s2, s3, s4, slt⟩ := span_blk hS4
  have fs3 := fz_blk hS4 3
  have HA4 := Lib.hid hA4; have HZ4 := Lib.hid hZ4; have HB4 := Lib.hid hB4; have HS4 := Lib.hid hS4
  clear hA4 hZ4 hB4 hS4
  go_upto_region 8 with fail
  have hon := only_setCell w4 ⟨w3.heap.size, 3, none⟩ (.int .i64 (s.ep + 2))
  have hS6 : (w4.setCell ⟨w3.heap.size, 3, none⟩ (.int .i64 (s.ep + 2))).heap[w3.heap.size]? = some (Span.blk { s with ep := s.ep + 2 }) := by
    have := heap_setCell_at (i := 3) HS4.out (.int .i64 (s.ep + 2))
    refine (show _ = _ from this).trans ?_
    simp only [Span.blk, List.setIfInBounds_toArray, List.set_cons_zero, List.set_cons_succ]
  have hA6 := (hon.block _ (lt_of_some HA4.out) (by show ¬ _ = w3.heap.size; omega)).trans HA4.out
  have hZ6 := (hon.block _ (lt_of_some HZ4.out) (by show ¬ _ = w3.heap.size; omega)).trans HZ4.out
  have hB6 := hon.below HB4.out (fun k hk => by have hk : k = w3.heap.size := hk; omega) HB4.out.size
  generalize w4.setCell ⟨w3.heap.size, 3, none⟩ (.int .i64 (s.ep + 2)) = w6 at *
  clear s0 s1 s2 s3 s4 slt fs3 hon
  obtain ⟨m0, m1, m2, m3, m4, m5, m6, m7, m8, m9, m10, mlt⟩ := map_cells hA6
  obtain ⟨t0, t1, t2, t3, t4, tlt⟩ := span_blk hS6
  have HA6 := Lib.hid hA6; have HZ6 := Lib.hid hZ6; have HB6 := Lib.hid hB6
  clear hA6 hZ6 hB6 hS6
  go_upto_region 9 with (go_at_call 46
                         have hb6 : Below w.heap.size w (w6.alloc (.cells #[.string s.fr, .string s.to, .int .i64 s.sh, .int .i64 (s.ep + 2), .int .i64 s.gr] 50)) := HB6.out.trans ((al _).mono HB6.out.size)
                         have hv2 : RowAt (w6.alloc (.cells #[.string s.fr, .string s.to, .int .i64 s.sh, .int .i64 (s.ep + 2), .int .i64 s.gr] 50)) (w6.alloc (.cells #[.string s.fr, .string s.to, .int .i64 s.sh, .int .i64 (s.ep + 2), .int .i64 s.gr] 50)).heap.size 5 (some ⟨w6.heap.size, 0, none⟩) ([{ s with ep := s.ep + 2 }].map Span.cells) := (rowAt_one (l := Span.cells { s with ep := s.ep + 2 }) (heap_alloc_new w6 _) (by simp))
                         refine (changed_at (w6.alloc (.cells #[.string s.fr, .string s.to, .int .i64 s.sh, .int .i64 (s.ep + 2), .int .i64 s.gr] 50)) (some ⟨b, off, none⟩) cap a.sp k (k + 1) ((k : Int) + 1) (by omega) (some ⟨w6.heap.size, 0, none⟩) 1 1 [{ s with ep := s.ep + 2 }] rfl (HI.out.below hb6).row hv2 (by omega) (by omega) (by omega) h16 (by simp) HI.out.ncap HI.out.cmax).mono ?_
                         rintro e w9 ⟨A9, cap9, n9, hn9, rfl, hO9, hb9⟩
                         rw [show a.sp.take k ++ [{ s with ep := s.ep + 2 }] ++ a.sp.drop (k + 1) = (a.sp.take k ++ { s with ep := s.ep + 2 } :: a.sp.drop (k + 1)) by simp] at hn9 hO9
                         have HN9 := Lib.hid hn9
                         have hb69 : Below w6.heap.size w6 w9 := (al _).trans (hb9.mono (by simp))
                         have hA9 := blk_below hb69 (lt_of_some HA6.out) HA6.out
                         have HZ9 := Lib.hid (blk_below hb69 (lt_of_some HZ6.out) HZ6.out)
                         have HB9 := Lib.hid (HB6.out.trans (hb69.mono HB6.out.size))
                         have HO9 := Lib.hid (own_base (base' := w6.heap.size) hO9 (by simp))
                         have n2 := (map_cells hA9).2.2.1
                         have n4 := (map_cells hA9).2.2.2.2.1
                         have nlt := lt_of_some hA9
                         have nf2 := map_frz hA9 2; have nf4 := map_frz hA9 4
                         have HA9 := Lib.hid hA9
                         clear hb6 hO9 hb9 hb69 hA9 hn9)
  go_upto_region 10 with fail
  have hlz := lt_of_some HZ6.out
  have hA10 : ((w9.setCell ⟨w.heap.size, 2, none⟩ (.slice A9 n9 cap9)).setCell ⟨w.heap.size, 4, none⟩ (.int .i64 9)).heap[w.heap.size]? = some (Atl.blk { a with sp := (a.sp.take k ++ { s with ep := s.ep + 2 } :: a.sp.drop (k + 1)), plan := { a.plan with phase := 9 } } (.slice A9 n9 cap9)) := by
    have := heap_setCell_at (i := 4) (heap_setCell_at (i := 2) HA9.out (.slice A9 n9 cap9)) (.int .i64 9)
    refine (show _ = _ from this).trans ?_
    simp only [Atl.blk, List.setIfInBounds_toArray, List.set_cons_zero, List.set_cons_succ]
  have ho10 := (only_setCell w9 ⟨w.heap.size, 2, none⟩ (.slice A9 n9 cap9)).trans (only_setCell _ ⟨w.heap.size, 4, none⟩ (.int .i64 9)) (fun _ _ h => h)
  have hZ10 := (ho10.block _ (lt_of_some HZ9.out) (by show ¬ _ = w.heap.size; omega)).trans HZ9.out
  have hB10 := ho10.below HB9.out (fun k hk => by have hk : k = w.heap.size := hk; omega) HB9.out.size
  have hO10 := own_only HO9.out ho10 (fun k hk he => by have := (HO9.out.lt k hk).1; have he : k = w.heap.size := he; omega)
  refine wp_region_lit ?_
  refine wpList_load26 rfl (.tmp 1) rfl (w.heap.size) rfl hA10 ?_
  simp only [Act.put, List.setIfInBounds_toArray, List.set_cons_zero, List.set_cons_succ]
  refine wpList_store26 rfl (.tmp 2) (.tmp 46) rfl (w.heap.size + 1) rfl (m := { a with sp := (a.sp.take k ++ { s with ep := s.ep + 2 } :: a.sp.drop (k + 1)), plan := { a.plan with phase := 9 } }) (v := (.slice A9 n9 cap9)) (m0 := zeroA) (v0 := nilV) rfl rfl hZ10 ?_
  intro w99 h9 ho9
  simp only [Act.put, List.setIfInBounds_toArray, List.set_cons_zero, List.set_cons_succ]
  go_wp2
  refine bodyPost_ret (results26 rfl _ _ (w.heap.size + 1) rfl h9) rfl ?_
  have hB99 := ho9.below hB10 (fun k hk => by omega) hB10.size
  have hO99 := own_only hO10 ho9 (fun k hk he => by have := (hO10.lt k hk).1; omega)
  exact ⟨A9, cap9, by simp [HN9.out, Atl.val], HI.out.respan (by rw [← HN9.out]; exact hO99) (by
    intro t ht
    simp only [List.mem_append, List.mem_cons] at ht
    rcases ht with ht | ht | ht
    · exact HI.out.sz t (List.mem_of_mem_take ht)
    · rw [ht]; exact HI.out.sz s (by rw [← hs]; exact List.getElem_mem hk)
    · exact HI.out.sz t (List.mem_of_mem_drop ht)) { a.plan with phase := 9 } HI.out.key a.last, hB99⟩
end Go.Proofs.Ytimondpollbdfaa
